/- The check sum, as plain numbers: by rounds of one bit, and by one step for a byte; Words on memory that name no function of the program: what a call may change, rows of elements, slices that a call owns; Bits, plain: numbers as bits, bits as bytes; Bits, plain: laying one more bit; the model's operations on bits; Frames, as plain lists; bits.Writer: bit; bits.Writer: Put, Out; math/bits.Len64; bits.Writer: Count. No condition. -/
import Derived.KernelRfl
import Derived.Test.YtfpikgkbccgchaaGreatDoorRows
import Derived.WalkKit
import Derived.WalkSpells
import Derived.Lib.Hide
import Derived.Deep.QuietTactic
import Derived.BigQuiet
import Derived.IntWalk
import Derived.Laws.Bits64b
import Derived.StillTailTactics

namespace Go.Proofs.YtfpikgkbccgchaaGreatDoor
set_option linter.unusedVariables false
set_option linter.unusedSimpArgs false

theorem xor_mul_pow (a b n : Nat) : (a ^^^ b) * 2 ^ n = a * 2 ^ n ^^^ b * 2 ^ n := by
  rw [← Nat.shiftLeft_eq, ← Nat.shiftLeft_eq, ← Nat.shiftLeft_eq]; exact Nat.shiftLeft_xor_distrib
theorem xor_split (r n : Nat) : r = (r / 2 ^ n) * 2 ^ n ^^^ r % 2 ^ n := by
  apply Nat.eq_of_testBit_eq
  intro i
  rw [Nat.testBit_xor, Nat.testBit_mul_two_pow, Nat.testBit_mod_two_pow, Nat.testBit_div_two_pow]
  by_cases h : n ≤ i
  · have h2 : ¬ i < n := by omega
    simp [h, h2]
  · have h2 : i < n := by omega
    simp [h, h2]
theorem xor_pair (a b c d : Nat) : (a ^^^ b) ^^^ (c ^^^ d) = (a ^^^ c) ^^^ (b ^^^ d) := by
  apply Nat.eq_of_testBit_eq
  intro i
  simp only [Nat.testBit_xor]
  cases a.testBit i <;> cases b.testBit i <;> cases c.testBit i <;> cases d.testBit i <;> rfl

/-- One round. -/
def rnd (r : Nat) : Nat := (r * 2 % 65536) ^^^ (if r / 32768 % 2 = 1 then 4129 else 0)
def rnds : Nat → Nat → Nat
  | 0, r => r
  | k + 1, r => rnds k (rnd r)
theorem rnd_lt (r : Nat) : rnd r < 65536 := by
  unfold rnd
  refine Nat.xor_lt_two_pow (n := 16) (Nat.mod_lt _ (by decide)) ?_
  split <;> decide
theorem rnd_xor (a b : Nat) : rnd (a ^^^ b) = rnd a ^^^ rnd b := by
  unfold rnd
  have h1 : (a ^^^ b) * 2 % 65536 = a * 2 % 65536 ^^^ b * 2 % 65536 := by
    rw [show (2 : Nat) = 2 ^ 1 from rfl, xor_mul_pow, show (65536 : Nat) = 2 ^ 16 from rfl, Nat.xor_mod_two_pow]
  have h2 : (a ^^^ b) / 32768 % 2 = (a / 32768 % 2) ^^^ (b / 32768 % 2) := by
    have e1 : (a ^^^ b) / 2 ^ 15 % 2 ^ 1 = (a / 2 ^ 15 % 2 ^ 1) ^^^ (b / 2 ^ 15 % 2 ^ 1) := by rw [Nat.xor_div_two_pow, Nat.xor_mod_two_pow]
    exact e1
  rw [h1, h2, xor_pair]
  congr 1
  rcases Nat.mod_two_eq_zero_or_one (a / 32768) with ha | ha <;> rcases Nat.mod_two_eq_zero_or_one (b / 32768) with hb | hb <;> rw [ha, hb] <;> rfl
theorem rnds_xor (k : Nat) : ∀ a b, rnds k (a ^^^ b) = rnds k a ^^^ rnds k b := by
  induction k with
  | zero => intro a b; rfl
  | succ k ih => intro a b; rw [rnds, rnds, rnds, rnd_xor, ih]
theorem rnds_lt (k : Nat) : ∀ r, r < 65536 → rnds k r < 65536 := by
  induction k with
  | zero => intro r h; exact h
  | succ k ih => intro r _; exact ih _ (rnd_lt r)
theorem rnds_snoc (k : Nat) : ∀ r, rnds (k + 1) r = rnd (rnds k r) := by
  induction k with
  | zero => intro r; rfl
  | succ k ih => intro r; rw [rnds, ih]; rfl

/-- What a byte does to the register. -/
def crcStep (r c : Nat) : Nat := rnds 8 (r ^^^ (c * 256 % 65536))
def crcT (y : Nat) : Nat := ((y ^^^ y / 16) * 4096 % 65536 ^^^ (y ^^^ y / 16) * 32 % 65536) ^^^ (y ^^^ y / 16)
theorem crcT_eq : ∀ y, y < 256 → rnds 8 (y * 256) = crcT y := of_decide_eq_true (by kernel_rfl)
theorem crc_low : ∀ y, y < 256 → rnds 8 y = y * 256 := of_decide_eq_true (by kernel_rfl)
theorem crcStep_lt (r c : Nat) : crcStep r c < 65536 := by
  unfold crcStep
  exact rnds_lt 7 _ (rnd_lt _)
theorem crcStep_eq (r c : Nat) (hr : r < 65536) (hc : c < 256) :
    crcStep r c = ((r * 256 % 65536 ^^^ (((r / 256 ^^^ c) ^^^ (r / 256 ^^^ c) / 16) * 4096 % 65536)) ^^^ (((r / 256 ^^^ c) ^^^ (r / 256 ^^^ c) / 16) * 32 % 65536)) ^^^ ((r / 256 ^^^ c) ^^^ (r / 256 ^^^ c) / 16) := by
  have hy : r / 256 ^^^ c < 256 := Nat.xor_lt_two_pow (n := 8) (by omega) (by omega)
  have h1 : r ^^^ (c * 256 % 65536) = (r / 256 ^^^ c) * 256 ^^^ r % 256 := by
    have e1 : c * 256 % 65536 = c * 256 := Nat.mod_eq_of_lt (by omega)
    have e2 := xor_split r 8
    have e3 := xor_mul_pow (r / 256) c 8
    rw [e1]
    show r ^^^ c * 2 ^ 8 = (r / 256 ^^^ c) * 2 ^ 8 ^^^ r % 2 ^ 8
    rw [e3]
    conv => lhs; lhs; rw [e2]
    rw [Nat.xor_assoc, Nat.xor_comm (r % 2 ^ 8), ← Nat.xor_assoc]
  have h2 : r * 256 % 65536 = r % 256 * 256 := by omega
  unfold crcStep
  rw [h1, rnds_xor, crcT_eq _ hy, crc_low _ (Nat.mod_lt _ (by decide)), h2]
  unfold crcT
  generalize (r / 256 ^^^ c) ^^^ (r / 256 ^^^ c) / 16 = x
  rw [Nat.xor_comm, ← Nat.xor_assoc, ← Nat.xor_assoc]

def crc (r : Nat) (l : List Nat) : Nat := l.foldl crcStep r
theorem crc_snoc (r : Nat) (l : List Nat) (c : Nat) : crc r (l ++ [c]) = crcStep (crc r l) c := by simp [crc]
theorem crc_append (r : Nat) (l m : List Nat) : crc r (l ++ m) = crc (crc r l) m := by simp [crc]
theorem crc_lt (r : Nat) (hr : r < 65536) (l : List Nat) : crc r l < 65536 := by
  induction l generalizing r with
  | nil => exact hr
  | cons a l ih => exact ih _ (crcStep_lt r a)
end Go.Proofs.YtfpikgkbccgchaaGreatDoor

namespace Go.Proofs.YtfpikgkbccgchaaGreatDoor
set_option linter.unusedVariables false
set_option linter.unusedSimpArgs false
open Go.RowKit

/-! ### What a call may change -/

/-- Behind a call only the blocks of S, and new ones, may read otherwise. -/
structure Kp (S : Nat → Prop) (w w' : World) : Prop where
  os : w'.os = w.os
  tape : w'.tape = w.tape
  output : w'.output = w.output
  size : w.heap.size ≤ w'.heap.size
  block : ∀ k, k < w.heap.size → ¬ S k → w'.heap[k]? = w.heap[k]?

/-- No block. -/
def No : Nat → Prop := fun _ => False
theorem no_no (k : Nat) : ¬ No k := fun h => h

section
variable {S S2 : Nat → Prop} {a b c w w' : World}
theorem Kp.refl (S : Nat → Prop) (w : World) : Kp S w w := ⟨rfl, rfl, rfl, Nat.le_refl _, fun _ _ _ => rfl⟩
theorem Kp.trans' (h : Kp S a b) (k : Kp S2 b c) (hs : ∀ k, k < a.heap.size → S2 k → S k) : Kp S a c :=
  ⟨k.os.trans h.os, k.tape.trans h.tape, k.output.trans h.output, Nat.le_trans h.size k.size, fun j hj hn =>
    (k.block j (Nat.lt_of_lt_of_le hj h.size) (fun h2 => hn (hs j hj h2))).trans (h.block j hj hn)⟩
theorem Kp.trans (h : Kp S a b) (k : Kp S b c) : Kp S a c := h.trans' k fun _ _ h => h
theorem Kp.no (h : Kp S a b) (k : Kp No b c) : Kp S a c := h.trans' k fun _ _ h => h.elim
theorem Kp.mono (h : Kp S a b) (hs : ∀ k, k < a.heap.size → S k → S2 k) : Kp S2 a b := ⟨h.os, h.tape, h.output, h.size, fun j hj hn => h.block j hj fun h2 => hn (hs j hj h2)⟩
theorem Kp.drew (h : Kp S a w) : Kp S a w.drew := ⟨h.os, h.tape, h.output, h.size, h.block⟩
theorem Kp.drewN (h : Kp S a w) (n : Nat) : Kp S a (w.drewN n) := ⟨h.os, h.tape, h.output, h.size, h.block⟩
theorem Kp.alloc (h : Kp S a w) (o : Obj) : Kp S a (w.alloc o) :=
  ⟨h.os, h.tape, h.output, by simp; have := h.size; omega, fun j hj hn => (Below.heap_alloc w o j (Nat.lt_of_lt_of_le hj h.size)).trans (h.block j hj hn)⟩
theorem Kp.setCell (h : Kp S a w) {p : Addr} (hp : p.block < a.heap.size → S p.block) (u : Value) : Kp S a (w.setCell p u) :=
  ⟨h.os, h.tape, h.output, by simpa using h.size, fun j hj hn => (Below.heap_setCell w p u j (fun e => hn (e ▸ hp (e ▸ hj)))).trans (h.block j hj hn)⟩
theorem Kp.setRow (h : Kp S a w) {g : Nat} (hp : g < a.heap.size → S g) (cs : Array Value) : Kp S a (w.setRow g cs) :=
  ⟨h.os, h.tape, h.output, by simpa [World.setRow] using h.size, fun j hj hn => (setRow_other w g j cs (fun e => hn (e ▸ hp (e ▸ hj)))).trans (h.block j hj hn)⟩
theorem Kp.setBlk (h : Kp S a w) {g : Nat} (hp : g < a.heap.size → S g) (o : Obj) : Kp S a { w with heap := w.heap.setIfInBounds g o } :=
  ⟨h.os, h.tape, h.output, by simpa using h.size, fun j hj hn => by
    have hne : g ≠ j := fun e => hn (e ▸ hp (e ▸ hj))
    exact (by simp [hne] : ({ w with heap := w.heap.setIfInBounds g o } : World).heap[j]? = w.heap[j]?).trans (h.block j hj hn)⟩
theorem Kp.ofBelow (h : Below w.heap.size w w') : Kp No w w' := ⟨h.os, h.tape, h.output, h.size, fun k hk _ => h.block k hk⟩
theorem Kp.below {B : Nat} (h : Kp S w w') (hS : ∀ k, k < B → ¬ S k) (hB : B ≤ w.heap.size) : Below B w w' :=
  ⟨h.os, h.tape, h.output, h.size, fun k hk => h.block k (by omega) (hS k hk)⟩
theorem Kp.belowNo (h : Kp No w w') : Below w.heap.size w w' := h.below (fun k _ => no_no k) (Nat.le_refl _)
theorem Kp.cell (h : Kp S w w') {p : Addr} (hp : p.block < w.heap.size) (hn : ¬ S p.block) : w'.cell? p = w.cell? p := World.cell?_of_block (h.block _ hp hn)
theorem Kp.cellS (h : Kp S w w') {p : Addr} {v : Value} (hv : w.cell? p = some v) (hn : ¬ S p.block) : w'.cell? p = some v := (h.cell (World.block_lt_of_cell? w p hv) hn).trans hv
theorem Kp.blk (h : Kp S w w') {g : Nat} {o : Obj} (hg : w.heap[g]? = some o) (hn : ¬ S g) : w'.heap[g]? = some o := (h.block g (lt_of_block hg) hn).trans hg
theorem Kp.gcell (h : Kp No w w') : ∀ g o, g < w.heap.size → w'.cell? ⟨g, o, none⟩ = w.cell? ⟨g, o, none⟩ := fun g o hg => h.cell (p := ⟨g, o, none⟩) hg (no_no _)
end

/-! ### Blocks -/
section
variable {w : World} {g : Nat} {cs : Array Value} {t : TypeId}
theorem blk_cell (h : w.heap[g]? = some (.cells cs t (0, 0))) (i : Nat) : w.cell? ⟨g, i, none⟩ = cs[i]? := cell_of_row w g i cs t (0, 0) h
theorem blk_free (h : w.heap[g]? = some (.cells cs t (0, 0))) (i : Nat) : w.frozen? ⟨g, i, none⟩ = false := by simp [World.frozen?, h]
theorem blk_set (h : w.heap[g]? = some (.cells cs t (0, 0))) (i : Nat) (v : Value) : (w.setCell ⟨g, i, none⟩ v).heap[g]? = some (.cells (cs.setIfInBounds i v) t (0, 0)) := by
  have hlt := lt_of_block h
  have hv : w.heap[g] = .cells cs t (0, 0) := (Array.getElem?_eq_some_iff.1 h).2
  unfold World.setCell
  simp [Array.getElem?_modify, h]
theorem blk_new (w : World) (o : Obj) : (w.alloc o).heap[w.heap.size]? = some o := heap_alloc_new w o
theorem blk_alloc {o' : Obj} (h : w.heap[g]? = some o') (o : Obj) : (w.alloc o).heap[g]? = some o' := (Below.heap_alloc w o g (lt_of_block h)).trans h
theorem blk_far {o' : Obj} (h : w.heap[g]? = some o') {p : Addr} (hp : g ≠ p.block) (u : Value) : (w.setCell p u).heap[g]? = some o' := (Below.heap_setCell w p u g hp).trans h
end

/-! ### Elements -/

/-- How an element lies in cells. -/
structure Kd (α : Type) where
  sz : Nat
  enc : α → List Value
  len : ∀ a, (enc a).length = sz
  one : ∀ a, ∀ v ∈ enc a, v.oneCell' = true
  pos : 0 < sz

namespace Kd
variable {α : Type} (K : Kd α)
def encs (l : List α) : List Value := l.flatMap K.enc
theorem encs_nil : K.encs [] = [] := rfl
theorem encs_cons (a : α) (l : List α) : K.encs (a :: l) = K.enc a ++ K.encs l := by simp [encs]
theorem encs_append (l m : List α) : K.encs (l ++ m) = K.encs l ++ K.encs m := by simp [encs]
theorem encs_one (a : α) : K.encs [a] = K.enc a := by simp [encs]
theorem length_encs (l : List α) : (K.encs l).length = l.length * K.sz := by
  induction l with
  | nil => simp [encs]
  | cons a l ih => rw [encs_cons, List.length_append, ih, K.len, List.length_cons, Nat.add_mul]; omega
theorem oneCell (l : List α) : ∀ v ∈ K.encs l, v.oneCell' = true := by
  intro v hv
  simp only [encs, List.mem_flatMap] at hv
  obtain ⟨a, _, h⟩ := hv
  exact K.one a v h
theorem encs_take (l : List α) (i : Nat) : (K.encs l).take (i * K.sz) = K.encs (l.take i) := by
  induction l generalizing i with
  | nil => simp [encs]
  | cons a l ih =>
    cases i with
    | zero => simp [encs]
    | succ i =>
      rw [encs_cons, List.take_succ_cons, encs_cons, Nat.add_mul, Nat.one_mul, Nat.add_comm, List.take_append, K.len, Nat.add_sub_cancel_left, ih, List.take_of_length_le (by rw [K.len]; omega)]
theorem encs_drop (l : List α) (i : Nat) : (K.encs l).drop (i * K.sz) = K.encs (l.drop i) := by
  induction l generalizing i with
  | nil => simp [encs]
  | cons a l ih =>
    cases i with
    | zero => simp [encs]
    | succ i =>
      rw [encs_cons, List.drop_succ_cons, Nat.add_mul, Nat.one_mul, Nat.add_comm, List.drop_append, K.len, Nat.add_sub_cancel_left, ih, List.drop_eq_nil_of_le (by rw [K.len]; omega), List.nil_append]
theorem encs_get (l : List α) (i j : Nat) (x : α) (hx : l[i]? = some x) (hj : j < K.sz) : (K.encs l)[i * K.sz + j]? = (K.enc x)[j]? := by
  have h1 : (K.encs l)[i * K.sz + j]? = ((K.encs l).drop (i * K.sz))[j]? := by rw [List.getElem?_drop]
  rw [h1, encs_drop]
  have hi : i < l.length := (List.getElem?_eq_some_iff.1 hx).1
  rw [List.drop_eq_getElem_cons hi, encs_cons, List.getElem?_append_left (by rw [K.len]; exact hj)]
  congr 2
  exact (List.getElem?_eq_some_iff.1 hx).2
end Kd

/-! ### Slices -/
section
variable {α : Type}
/-- v reads as l. -/
def Rd (K : Kd α) (w : World) (v : Value) (l : List α) : Prop :=
  ((∃ A cap, v = .slice A 0 cap) ∧ l = []) ∨ ∃ g o cap, v = .slice (some ⟨g, o, none⟩) l.length cap ∧ l.length ≤ cap ∧ cap ≤ maxLen ∧ ∀ j u, (K.encs l)[j]? = some u → w.cell? ⟨g, o + j, none⟩ = some u

/-- v reads as l, and has its block for itself, from its first cell on. -/
def Own (K : Kd α) (e : TypeId) (w : World) (v : Value) (l : List α) : Prop :=
  (v = .slice none 0 0 ∧ l = []) ∨ ∃ g cap cur, v = .slice (some ⟨g, 0, none⟩) l.length cap ∧ w.heap[g]? = some (.cells cur e (0, 0)) ∧ l.length ≤ cap ∧ cap ≤ maxLen ∧ cur.size = cap * K.sz ∧ cur.toList.take (l.length * K.sz) = K.encs l

variable {K : Kd α} {e : TypeId} {w w' : World} {v : Value} {l : List α}

theorem Own.cells (h : Own K e w v l) : ∀ g o n cap, v = .slice (some ⟨g, o, none⟩) n cap → ∀ j u, (K.encs l)[j]? = some u → w.cell? ⟨g, o + j, none⟩ = some u := by
  intro g o n cap hv j u hu
  rcases h with ⟨rfl, rfl⟩ | ⟨g', cap', cur, rfl, hb, hlc, hcm, hsz, htake⟩
  · simp at hv
  · simp only [Value.slice.injEq, Option.some.injEq, Addr.mk.injEq] at hv
    obtain ⟨⟨rfl, rfl, _⟩, _, _⟩ := hv
    rw [blk_cell hb, Nat.zero_add]
    rw [← htake, List.getElem?_take] at hu
    split at hu
    · simpa using hu
    · cases hu

theorem Own.rd (h : Own K e w v l) : Rd K w v l := by
  rcases h with ⟨hv, hl⟩ | ⟨g, cap, cur, hv, hb, hlc, hcm, hsz, htake⟩
  · exact .inl ⟨⟨none, 0, hv⟩, hl⟩
  · exact .inr ⟨g, 0, cap, hv, hlc, hcm, Own.cells (.inr ⟨g, cap, cur, hv, hb, hlc, hcm, hsz, htake⟩) g 0 _ cap hv⟩

theorem Own.nil (K : Kd α) (e : TypeId) (w : World) : Own K e w (.slice none 0 0) [] := .inl ⟨rfl, rfl⟩
theorem Rd.nil (K : Kd α) (w : World) : Rd K w (.slice none 0 0) [] := .inl ⟨⟨_, _, rfl⟩, rfl⟩
theorem Rd.empty (K : Kd α) (w : World) (A : Option Addr) (c : Nat) : Rd K w (.slice A 0 c) [] := .inl ⟨⟨_, _, rfl⟩, rfl⟩

theorem Own.lt (h : Own K e w v l) {g : Nat} (hg : v.ownBlock = some g) : g < w.heap.size := by
  rcases h with ⟨rfl, _⟩ | ⟨g', _, _, rfl, hb, _⟩
  · simp [Value.ownBlock] at hg
  · simp [Value.ownBlock] at hg; subst hg; exact lt_of_block hb

theorem Own.kp {S : Nat → Prop} (h : Own K e w v l) (hk : Kp S w w') (hn : ∀ g, v.ownBlock = some g → ¬ S g) : Own K e w' v l := by
  rcases h with h | ⟨g, cap, cur, rfl, hb, h⟩
  · exact .inl h
  · exact .inr ⟨g, cap, cur, rfl, hk.blk hb (hn g rfl), h⟩
theorem Own.kpNo (h : Own K e w v l) (hk : Kp No w w') : Own K e w' v l := h.kp hk fun _ _ => no_no _

theorem Rd.kp {S : Nat → Prop} (h : Rd K w v l) (hk : Kp S w w') (hn : ∀ g, v.ownBlock = some g → ¬ S g) : Rd K w' v l := by
  rcases h with h | ⟨g, o, cap, rfl, h1, h2, h3⟩
  · exact .inl h
  · exact .inr ⟨g, o, cap, rfl, h1, h2, fun j u hu => hk.cellS (h3 j u hu) (hn g rfl)⟩
theorem Rd.kpNo (h : Rd K w v l) (hk : Kp No w w') : Rd K w' v l := h.kp hk fun _ _ => no_no _
theorem Own.alloc (h : Own K e w v l) (o : Obj) : Own K e (w.alloc o) v l := h.kpNo ((Kp.refl _ _).alloc o)
theorem Rd.alloc (h : Rd K w v l) (o : Obj) : Rd K (w.alloc o) v l := h.kpNo ((Kp.refl _ _).alloc o)
theorem Own.drewN (h : Own K e w v l) (n : Nat) : Own K e (w.drewN n) v l := h
theorem Rd.drewN (h : Rd K w v l) (n : Nat) : Rd K (w.drewN n) v l := h

/-- The shape of a value that reads. -/
theorem Rd.shape (h : Rd K w v l) : ∃ a cap, v = .slice a l.length cap := by
  rcases h with ⟨⟨A, c, rfl⟩, rfl⟩ | ⟨g, o, cap, rfl, _⟩
  · exact ⟨A, c, rfl⟩
  · exact ⟨_, _, rfl⟩

theorem Rd.cells (h : Rd K w v l) : ∀ g o n cap, v = .slice (some ⟨g, o, none⟩) n cap → ∀ j u, (K.encs l)[j]? = some u → w.cell? ⟨g, o + j, none⟩ = some u := by
  intro g o n cap hv j u hu
  rcases h with ⟨_, rfl⟩ | ⟨g', o', cap', rfl, _, _, h3⟩
  · simp [Kd.encs] at hu
  · simp only [Value.slice.injEq, Option.some.injEq, Addr.mk.injEq] at hv
    obtain ⟨⟨rfl, rfl, _⟩, _, _⟩ := hv
    exact h3 j u hu
theorem Rd.at (h : Rd K w v l) {g o n cap : Nat} (hv : v = .slice (some ⟨g, o, none⟩) n cap) {i j : Nat} {x : α} {u : Value} (hx : l[i]? = some x) (hj : (K.enc x)[j]? = some u) :
    w.cell? ⟨g, o + i * K.sz + j, none⟩ = some u := by
  rw [Nat.add_assoc]
  rcases h with ⟨_, rfl⟩ | ⟨g', o', cap', rfl, h1, h2, h3⟩
  · simp at hx
  · simp only [Value.slice.injEq, Option.some.injEq, Addr.mk.injEq] at hv
    obtain ⟨⟨rfl, rfl, _⟩, _, _⟩ := hv
    have hjl : j < K.sz := by rw [← K.len x]; exact (List.getElem?_eq_some_iff.1 hj).1
    exact h3 _ _ ((K.encs_get l i j x hx hjl).trans hj)

/-- A new block that holds just these elements. -/
theorem Own.lit (K : Kd α) (e : TypeId) (w : World) (cs : List Value) (l : List α) (hc : cs = K.encs l) (hm : l.length ≤ maxLen) :
    Own K e (w.alloc (.cells cs.toArray e)) (.slice (some ⟨w.heap.size, 0, none⟩) l.length l.length) l :=
  .inr ⟨w.heap.size, l.length, cs.toArray, rfl, blk_new w _, Nat.le_refl _, hm, by rw [hc]; simp [K.length_encs], by rw [hc]; simp [← K.length_encs]⟩
end

theorem Rd.litAt {α : Type} (K : Kd α) (e : TypeId) (w : World) (cs : Array Value) (l : List α) (hc : cs.toList = K.encs l) (hm : l.length ≤ maxLen) (b n : Nat) (hb : b = w.heap.size) (hn : n = l.length) :
    Rd K (w.alloc (.cells cs e)) (.slice (some ⟨b, 0, none⟩) n n) l := by
  subst hb hn
  have := (Own.lit K e w cs.toList l hc hm).rd
  rwa [Array.toArray_toList] at this

/-- The element type's row in the program's table. -/
structure ElT (P : Program) (t e : TypeId) {α : Type} (K : Kd α) (bytes : Nat) : Prop where
  und : P.underlying t = some (.slice e)
  info : ∃ i z, P.info? e = some i ∧ i.zero = some z ∧ i.size = K.sz ∧ i.bytes = bytes ∧ z.cells.size = K.sz

theorem ElT.of {P : Program} {t e : TypeId} {α : Type} {K : Kd α} {bytes : Nat} {z : Value} (h1 : P.underlying t = some (.slice e))
    (h2 : (P.info? e).map (fun i => (i.zero, i.size, i.bytes)) = some (some z, K.sz, bytes)) (h3 : z.cells.size = K.sz) : ElT P t e K bytes := by
  obtain ⟨i, hi, hz0, hz1, hz2⟩ := info_parts h2
  exact ⟨h1, i, z, hi, hz0, hz1, hz2, h3⟩

section
variable {α : Type} {K : Kd α} {P : Program} {t e : TypeId} {bytes : Nat} {w : World}

/-- The new block behind an append that grows. -/
theorem own_grown (z : Value) (hz : z.cells.size = K.sz) (l : List α) (n c : Nat) (hn : n = l.length) (hc : n ≤ c) (hm : c ≤ maxLen) (w : World) :
    Own K e (w.drew.alloc (.cells ((K.encs l).toArray ++ Builtin.zeroCells z.cells (c - n)) e)) (.slice (some ⟨w.heap.size, 0, none⟩) n c) l := by
  subst hn
  refine .inr ⟨w.heap.size, c, _, rfl, blk_new w.drew _, hc, hm, ?_, ?_⟩
  · simp only [Array.size_append, List.size_toArray, size_zeroCells, hz, K.length_encs, ← Nat.add_mul]
    congr 1; omega
  · simp only [Array.toList_append]
    rw [← K.length_encs]
    exact List.take_left

theorem run_append (E : ElT P t e K bytes) (ty : TypeId) {v x : Value} {l m : List α} (hown : Own K e w v l) (hx : Rd K w x m) (h63 : l.length + m.length ≤ maxLen) (hbytes : (l.length + m.length) * bytes ≤ 140737488355328) :
    ∃ v' w', (Builtin.append_ #[t, t] ty #[v, x]).run P w = .ok v' w' ∧ Own K e w' v' (l ++ m) ∧ Kp (fun k => v.ownBlock = some k) w w' ∧ (∀ g, v'.ownBlock = some g → v.ownBlock = some g ∨ w.heap.size ≤ g) := by
  obtain ⟨ht, i, z, hi, hz, hsize, hby, hzs⟩ := E
  subst hby
  have hsmall : l.length + m.length ≤ 9223372036854775807 := by simp only [maxLen] at h63; omega
  rcases hx with ⟨⟨A, c, rfl⟩, rfl⟩ | ⟨xg, xo, xc, rfl, hxc, _, hxcell⟩
  · refine ⟨v, w, ?_, by simpa using hown, Kp.refl _ _, fun g hg => .inl hg⟩
    rcases hown with ⟨rfl, rfl⟩ | ⟨g, cap, cur, rfl, hb, hlc, _, _, _⟩
    · cases A <;> simp [Builtin.append_, run_underlying ht, sizeOf, typeInfo, hi, Builtin.lenOf, Builtin.firstCells, loadCells, loadCellsFrom]
    · cases A <;> simp [Builtin.append_, run_underlying ht, sizeOf, typeInfo, hi, Builtin.lenOf, Builtin.firstCells, hlc, storeCells, loadCells, loadCellsFrom]
  · have hadd : ∀ j, (⟨xg, xo, none⟩ : Addr).add j = ⟨xg, xo + j, none⟩ := fun j => by simp [Addr.add_lit]
    have hnews : ∀ j u, (K.encs m)[j]? = some u → w.cell? ((⟨xg, xo, none⟩ : Addr).add j) = some u := fun j u hu => by rw [hadd]; exact hxcell j u hu
    have hl : (K.encs m).length = m.length * i.size := by rw [K.length_encs, hsize]
    rcases hown with ⟨rfl, rfl⟩ | ⟨g, cap, cur, rfl, hb, hlc, hcm, hsz, htake⟩
    · by_cases hm : m.length = 0
      · obtain rfl : m = [] := List.eq_nil_of_length_eq_zero hm
        refine ⟨.slice none 0 0, w, ?_, Own.nil _ _ _, Kp.refl _ _, fun g hg => .inl hg⟩
        simp [Builtin.append_, run_underlying ht, sizeOf, typeInfo, hi, Builtin.lenOf, Builtin.firstCells, loadCells, loadCellsFrom]
      · have hr := run_append_nil (P := P) w t ty e i z ht hi hz ⟨xg, xo, none⟩ m.length xc (K.encs m) hl hnews (by omega) (by simp at hsmall; omega) (by simp at hbytes; omega)
        refine ⟨_, _, hr, ?_, (Kp.refl _ w).drew.alloc _, fun g hg => .inr (by simp [Value.ownBlock] at hg; omega)⟩
        exact own_grown z hzs m _ _ rfl (grownCap_ge w _ _ e) (grownCap_le_maxLen w _ _ e (by simp at h63; omega)) w
    · by_cases hroom : l.length + m.length ≤ cap
      · have hfit : l.length * i.size + (K.encs m).length ≤ cur.size := by rw [hl, hsz, hsize, ← Nat.add_mul]; exact Nat.mul_le_mul_right _ hroom
        have hr := run_append_room (P := P) w t ty e i ht hi g l.length cap cur hb ⟨xg, xo, none⟩ m.length xc (K.encs m) hl hnews (K.oneCell m) hroom hfit
        refine ⟨_, _, hr, ?_, (Kp.refl (fun k => some g = some k) w).setRow (fun _ => rfl) _, fun g hg => .inl hg⟩
        refine .inr ⟨g, cap, _, by simp, setRow_heap w g cur _ e _ hb, by simpa using hroom, hcm, ?_, ?_⟩
        · simp only [List.size_toArray, List.length_append, List.length_take, List.length_drop, Array.length_toList]
          omega
        · rw [hsize, htake, ← K.encs_append, List.length_append, ← List.length_append, ← K.length_encs]
          exact List.take_left
      · have holds : ∀ j u, (K.encs l)[j]? = some u → w.cell? ((⟨g, 0, none⟩ : Addr).add j) = some u := fun j u hu => by
          simp only [Addr.add_lit]
          exact Own.cells (.inr ⟨g, cap, cur, rfl, hb, hlc, hcm, hsz, htake⟩) g 0 _ cap rfl j u hu
        have hr := run_append_grow (P := P) w t ty e i z ht hi hz ⟨g, 0, none⟩ l.length cap (K.encs l) (by rw [K.length_encs, hsize]) holds ⟨xg, xo, none⟩ m.length xc (K.encs m) hl hnews (by omega) (by omega) (growslice_fits (by omega) hbytes)
        refine ⟨_, _, hr, ?_, (Kp.refl _ w).drew.alloc _, fun g hg => .inr (by simp [Value.ownBlock] at hg; omega)⟩
        have := own_grown (e := e) z hzs (l ++ m) (l.length + m.length) _ (by simp) (grownCap_ge w (l.length + m.length) cap e) (grownCap_le_maxLen w (l.length + m.length) cap e h63) w
        rw [K.encs_append, ← List.append_toArray] at this
        exact this
end

section
variable {α : Type} {K : Kd α} {P : Program} {t e : TypeId} {bytes : Nat}
/-- 's[:hi]' -/
theorem run_slice_hi (E : ElT P t e K bytes) (g o n cap hi : Nat) (h : hi ≤ cap) (x : Int) (hx : x = hi) (w : World) :
    (Instr.slice t (.slice (some ⟨g, o, none⟩) n cap) none (some (.int .i64 x)) none).run P w = .ok (.slice (some ⟨g, o, none⟩) hi cap) w := by
  subst hx
  obtain ⟨ht, i, z, hi', hz, hsize, hby, hzs⟩ := E
  simp [Instr.slice, Instr.sliceBounds, Instr.sliceBound, run_underlying ht, sizeOf, typeInfo, hi', asIntOf, h, Addr.add_lit]
/-- 's[lo:]' -/
theorem run_slice_lo (E : ElT P t e K bytes) (g o n cap lo : Nat) (h : lo ≤ n) (x : Int) (hx : x = lo) :
    ∃ o', (lo < cap → o' = o + lo * K.sz) ∧ ∀ w, (Instr.slice t (.slice (some ⟨g, o, none⟩) n cap) (some (.int .i64 x)) none none).run P w = .ok (.slice (some ⟨g, o', none⟩) (n - lo) (cap - lo)) w := by
  subst hx
  obtain ⟨ht, i, z, hi', hz, hsize, hby, hzs⟩ := E
  refine ⟨if cap = lo then o else o + lo * K.sz, fun hlt => if_neg (by omega), fun w => ?_⟩
  by_cases hc : cap = lo
  · subst hc; simp [Instr.slice, Instr.sliceBounds, Instr.sliceBound, run_underlying ht, sizeOf, typeInfo, hi', asIntOf, h]
  · simp [Instr.slice, Instr.sliceBounds, Instr.sliceBound, run_underlying ht, sizeOf, typeInfo, hi', asIntOf, h, hc, Addr.add_lit, hsize]
/-- 's[lo:hi]' -/
theorem run_slice_lohi (E : ElT P t e K bytes) (g o n cap lo hi : Nat) (h : lo ≤ hi) (h' : hi ≤ cap) (x y : Int) (hx : x = lo) (hy : y = hi) :
    ∃ o', (lo < cap → o' = o + lo * K.sz) ∧ ∀ w, (Instr.slice t (.slice (some ⟨g, o, none⟩) n cap) (some (.int .i64 x)) (some (.int .i64 y)) none).run P w = .ok (.slice (some ⟨g, o', none⟩) (hi - lo) (cap - lo)) w := by
  subst hx hy
  obtain ⟨ht, i, z, hi', hz, hsize, hby, hzs⟩ := E
  refine ⟨if cap = lo then o else o + lo * K.sz, fun hlt => if_neg (by omega), fun w => ?_⟩
  by_cases hc : cap = lo
  · subst hc; simp [Instr.slice, Instr.sliceBounds, Instr.sliceBound, run_underlying ht, sizeOf, typeInfo, hi', asIntOf, h, h']
  · simp [Instr.slice, Instr.sliceBounds, Instr.sliceBound, run_underlying ht, sizeOf, typeInfo, hi', asIntOf, h, h', hc, Addr.add_lit, hsize]
/-- 's[lo:hi:max]' -/
theorem run_slice_3 (E : ElT P t e K bytes) (g o n cap lo hi mx : Nat) (h : lo ≤ hi) (h' : hi ≤ mx) (h'' : mx ≤ cap) (x y z : Int) (hx : x = lo) (hy : y = hi) (hz : z = mx) :
    ∃ o', (lo < mx → o' = o + lo * K.sz) ∧ ∀ w, (Instr.slice t (.slice (some ⟨g, o, none⟩) n cap) (some (.int .i64 x)) (some (.int .i64 y)) (some (.int .i64 z))).run P w = .ok (.slice (some ⟨g, o', none⟩) (hi - lo) (mx - lo)) w := by
  subst hx hy hz
  obtain ⟨ht, i, z', hi', hz', hsize, hby, hzs⟩ := E
  refine ⟨if mx = lo then o else o + lo * K.sz, fun hlt => if_neg (by omega), fun w => ?_⟩
  by_cases hc : mx = lo
  · subst hc; simp [Instr.slice, Instr.sliceBounds, Instr.sliceBound, run_underlying ht, sizeOf, typeInfo, hi', asIntOf, h, h', h'']
  · simp [Instr.slice, Instr.sliceBounds, Instr.sliceBound, run_underlying ht, sizeOf, typeInfo, hi', asIntOf, h, h', h'', hc, Addr.add_lit, hsize]
/-- 's[lo:]', 's[:hi]' of nil. -/
theorem run_slice_nil_lo (E : ElT P t e K bytes) (w : World) : (Instr.slice t (.slice none 0 0) (some (.int .i64 0)) none none).run P w = .ok (.slice none 0 0) w := by
  obtain ⟨ht, i, z, hi', hz, hsize, hby, hzs⟩ := E
  simp [Instr.slice, Instr.sliceBounds, Instr.sliceBound, run_underlying ht, sizeOf, typeInfo, hi', asIntOf]
theorem run_slice_nil_hi (E : ElT P t e K bytes) (w : World) : (Instr.slice t (.slice none 0 0) none (some (.int .i64 0)) none).run P w = .ok (.slice none 0 0) w := by
  obtain ⟨ht, i, z, hi', hz, hsize, hby, hzs⟩ := E
  simp [Instr.slice, Instr.sliceBounds, Instr.sliceBound, run_underlying ht, sizeOf, typeInfo, hi', asIntOf]

/-- Slices of an empty one. -/
theorem slice_e_addr (A : Option Addr) (c n : Nat) : (if c = 0 then A else A.map (·.add (0 * n))) = A := by
  split
  · rfl
  · cases A <;> simp [Addr.add]
theorem run_slice_e_lo (E : ElT P t e K bytes) (A : Option Addr) (c : Nat) (w : World) : (Instr.slice t (.slice A 0 c) (some (.int .i64 0)) none none).run P w = .ok (.slice A 0 c) w := by
  obtain ⟨ht, i, z, hi', hz, hsize, hby, hzs⟩ := E
  have hA := slice_e_addr A c i.size
  simp only [Nat.zero_mul] at hA
  simp [Instr.slice, Instr.sliceBounds, Instr.sliceBound, run_underlying ht, sizeOf, typeInfo, hi', asIntOf, hA]
theorem run_slice_e_hi (E : ElT P t e K bytes) (A : Option Addr) (c : Nat) (w : World) : (Instr.slice t (.slice A 0 c) none (some (.int .i64 0)) none).run P w = .ok (.slice A 0 c) w := by
  obtain ⟨ht, i, z, hi', hz, hsize, hby, hzs⟩ := E
  have hA := slice_e_addr A c i.size
  simp only [Nat.zero_mul] at hA
  simp [Instr.slice, Instr.sliceBounds, Instr.sliceBound, run_underlying ht, sizeOf, typeInfo, hi', asIntOf, hA]
theorem run_slice_e_lohi (E : ElT P t e K bytes) (A : Option Addr) (c : Nat) (w : World) : (Instr.slice t (.slice A 0 c) (some (.int .i64 0)) (some (.int .i64 0)) none).run P w = .ok (.slice A 0 c) w := by
  obtain ⟨ht, i, z, hi', hz, hsize, hby, hzs⟩ := E
  have hA := slice_e_addr A c i.size
  simp only [Nat.zero_mul] at hA
  simp [Instr.slice, Instr.sliceBounds, Instr.sliceBound, run_underlying ht, sizeOf, typeInfo, hi', asIntOf, hA]

/-- 's[lo:]', as a list. -/
theorem Rd.from (E : ElT P t e K bytes) {w : World} {v : Value} {l : List α} (h : Rd K w v l) (p : Nat) (hp : p ≤ l.length) (x : Int) (hx : x = p) :
    ∃ v2, (∀ w', (Instr.slice t v (some (.int .i64 x)) none none).run P w' = .ok v2 w') ∧ Rd K w v2 (l.drop p) ∧ (∀ g, v2.ownBlock = some g → v.ownBlock = some g) := by
  rcases h with ⟨⟨A, c, rfl⟩, rfl⟩ | ⟨g, o, cap, rfl, h1, h2, h3⟩
  · obtain rfl : p = 0 := by simpa using hp
    subst hx
    exact ⟨_, fun w' => run_slice_e_lo E A c w', by simpa using Rd.empty K w A c, fun g hg => hg⟩
  · obtain ⟨o', ho', hs⟩ := run_slice_lo E g o l.length cap p hp x hx
    refine ⟨_, hs, .inr ⟨g, o', cap - p, by simp, by simp; omega, by omega, fun j u hu => ?_⟩, fun g' hg' => hg'⟩
    have hj := (List.getElem?_eq_some_iff.1 hu).1
    rw [K.length_encs, List.length_drop] at hj
    have hpl : p < cap := by
      rcases Nat.lt_or_ge p l.length with h | h
      · omega
      · rw [show l.length - p = 0 by omega, Nat.zero_mul] at hj; omega
    rw [ho' hpl, Nat.add_assoc]
    rw [← K.encs_drop, List.getElem?_drop] at hu
    exact h3 _ u hu

/-- Block g, of cap elements, begins with l. -/
def OwnB {α : Type} (K : Kd α) (e : TypeId) (w : World) (g cap : Nat) (l : List α) : Prop :=
  ∃ cur : Array Value, w.heap[g]? = some (.cells cur e (0, 0)) ∧ l.length ≤ cap ∧ cur.size = cap * K.sz ∧ cur.toList.take (l.length * K.sz) = K.encs l

theorem OwnB.own {α : Type} {K : Kd α} {e : TypeId} {w : World} {g cap : Nat} {l : List α} (h : OwnB K e w g cap l) (hm : cap ≤ maxLen) : Own K e w (.slice (some ⟨g, 0, none⟩) l.length cap) l :=
  let ⟨cur, h1, h2, h3, h4⟩ := h
  .inr ⟨g, cap, cur, rfl, h1, h2, hm, h3, h4⟩
theorem OwnB.take {α : Type} {K : Kd α} {e : TypeId} {w : World} {g cap : Nat} {l : List α} (h : OwnB K e w g cap l) (i : Nat) : OwnB K e w g cap (l.take i) := by
  obtain ⟨cur, h1, h2, h3, h4⟩ := h
  refine ⟨cur, h1, by simp; omega, h3, ?_⟩
  rw [← K.encs_take, ← h4, List.take_take]
  rcases Nat.le_total i l.length with hi | hi
  · rw [List.length_take, Nat.min_eq_left hi, Nat.min_eq_left (Nat.mul_le_mul_right _ hi)]
  · rw [List.length_take, Nat.min_eq_right hi, Nat.min_eq_right (Nat.mul_le_mul_right _ hi)]
theorem OwnB.lt {α : Type} {K : Kd α} {e : TypeId} {w : World} {g cap : Nat} {l : List α} (h : OwnB K e w g cap l) : g < w.heap.size := let ⟨_, h1, _⟩ := h; lt_of_block h1
theorem OwnB.drew {α : Type} {K : Kd α} {e : TypeId} {w : World} {g cap : Nat} {l : List α} (h : OwnB K e w g cap l) : OwnB K e w.drew g cap l := h
theorem OwnB.kp {α : Type} {K : Kd α} {e : TypeId} {w w' : World} {g cap : Nat} {l : List α} {S : Nat → Prop} (h : OwnB K e w g cap l) (hk : Kp S w w') (hn : ¬ S g) : OwnB K e w' g cap l :=
  let ⟨cur, h1, h2⟩ := h
  ⟨cur, hk.blk h1 hn, h2⟩
theorem OwnB.cells {α : Type} {K : Kd α} {e : TypeId} {w : World} {g cap : Nat} {l : List α} (h : OwnB K e w g cap l) : ∀ j u, (K.encs l)[j]? = some u → w.cell? ⟨g, j, none⟩ = some u := by
  obtain ⟨cur, h1, h2, h3, h4⟩ := h
  intro j u hu
  rw [blk_cell h1]
  rw [← h4, List.getElem?_take] at hu
  split at hu
  · simpa using hu
  · cases hu
theorem Own.b {α : Type} {K : Kd α} {e : TypeId} {w : World} {v : Value} {l : List α} (h : Own K e w v l) : (v = .slice none 0 0 ∧ l = []) ∨ ∃ g cap, v = .slice (some ⟨g, 0, none⟩) l.length cap ∧ cap ≤ maxLen ∧ l.length ≤ cap ∧ OwnB K e w g cap l := by
  rcases h with h | ⟨g, cap, cur, rfl, h1, h2, h3, h4⟩
  · exact .inl h
  · exact .inr ⟨g, cap, rfl, h3, h2, cur, h1, h2, h4⟩
/-- Elements are written into it. -/
theorem OwnB.write {α : Type} {K : Kd α} {e : TypeId} {w : World} {g cap : Nat} {l : List α} (h : OwnB K e w g cap l) (off : Nat) (m : List α) (ho : off ≤ l.length) (hfit : off + m.length ≤ cap) :
    ∃ cur : Array Value, w.heap[g]? = some (.cells cur e (0, 0)) ∧ (off + m.length) * K.sz ≤ cur.size ∧ cur.size = cap * K.sz ∧
      OwnB K e (w.setRow g (cur.toList.take (off * K.sz) ++ K.encs m ++ cur.toList.drop ((off + m.length) * K.sz)).toArray) g cap (l.take off ++ m ++ l.drop (off + m.length)) := by
  obtain ⟨cur, h1, h2, h3, h4⟩ := h
  have hle : (off + m.length) * K.sz ≤ cur.size := by rw [h3]; exact Nat.mul_le_mul_right _ hfit
  have hle0 : off * K.sz ≤ cur.size := Nat.le_trans (Nat.mul_le_mul_right _ (by omega)) hle
  refine ⟨cur, h1, hle, h3, _, setRow_heap w g cur _ e _ h1, by simp; omega, ?_, ?_⟩
  · simp only [List.size_toArray, List.length_append, List.length_take, List.length_drop, Array.length_toList, K.length_encs]
    rw [← h3]
    have := Nat.add_mul off m.length K.sz
    omega
  · have hA : cur.toList.take (off * K.sz) = K.encs (l.take off) := by
      rw [← K.encs_take, ← h4, List.take_take, Nat.min_eq_left (Nat.mul_le_mul_right _ ho)]
    simp only [K.encs_append, hA, List.append_assoc]
    have hl1 : (K.encs (l.take off)).length = off * K.sz := by rw [K.length_encs, List.length_take, Nat.min_eq_left ho]
    have hl2 : (K.encs m).length = m.length * K.sz := K.length_encs m
    have hlen : (l.take off ++ (m ++ l.drop (off + m.length))).length = off + m.length + (l.length - (off + m.length)) := by simp; omega
    rw [hlen, Nat.add_mul, Nat.add_mul, ← hl1, ← hl2, Nat.add_assoc, List.take_length_add_append, List.take_length_add_append, ← List.append_assoc, ← List.append_assoc]
    congr 1
    rw [← K.encs_drop, ← h4, List.drop_take, ← Nat.sub_mul, hl1, hl2, ← Nat.add_mul]
/-- ...and the same by copy, append and clear. -/
theorem OwnB.copied (E : ElT P t e K bytes) {w : World} {g cap off : Nat} {l : List α} (h : OwnB K e w g cap l) (m : List α) (ho : off ≤ l.length) (hfit : off + m.length ≤ cap) (o' dn dc : Nat) (sp : Option Addr) (sn sc : Nat) (hm : m.length = min sn dn) (ho' : 0 < m.length → o' = off * K.sz)
    (hsrc : 0 < m.length → ∃ sg so, sp = some ⟨sg, so, none⟩ ∧ ∀ j u, (K.encs m)[j]? = some u → w.cell? ⟨sg, so + j, none⟩ = some u) :
    ∃ w', (∀ ty, (Builtin.copy_ #[t, t] ty #[.slice (some ⟨g, o', none⟩) dn dc, .slice sp sn sc]).run P w = .ok (goInt m.length) w') ∧ OwnB K e w' g cap (l.take off ++ m ++ l.drop (off + m.length)) ∧ Kp (fun k => k = g) w w' := by
  obtain ⟨ht, i, z, hi', hz, hsize, hby, hzs⟩ := E
  have hmin : Nat.min sn dn = m.length := hm.symm
  by_cases h0 : m.length = 0
  · obtain rfl : m = [] := List.eq_nil_of_length_eq_zero h0
    have hmin' : Nat.min sn dn = 0 := hmin
    refine ⟨w, fun ty => ?_, by simpa using h, Kp.refl _ _⟩
    cases sp with
    | none => simp [Builtin.copy_, run_underlying ht, sizeOf, typeInfo, hi', Builtin.lenOf, hmin', Builtin.firstCells, storeCells]
    | some a => simp [Builtin.copy_, run_underlying ht, sizeOf, typeInfo, hi', Builtin.lenOf, hmin', Builtin.firstCells, loadCells, loadCellsFrom, storeCells]
  · obtain ⟨sg, so, rfl, hcell⟩ := hsrc (by omega)
    obtain rfl := ho' (by omega)
    obtain ⟨cur, hb, hle, hcs, hw⟩ := h.write off m ho hfit
    refine ⟨_, fun ty => ?_, hw, (Kp.refl (fun k => k = g) w).setRow (fun _ => rfl) _⟩
    have hl : (K.encs m).length = m.length * i.size := by rw [K.length_encs, hsize]
    have hf := run_firstCells_some (P := P) w i.size m.length ⟨sg, so, none⟩ sn sc (K.encs m) hl (fun j u hu => by simp only [Addr.add_lit]; exact hcell j u hu)
    have hst := run_storeCells_at P g (off * K.sz) e (K.encs m) 0 cur w hb (by rw [K.length_encs]; have := Nat.add_mul off m.length K.sz; simp; omega) (K.oneCell m)
    simp only [Nat.add_zero, K.length_encs, ← Nat.add_mul] at hst
    simp [Builtin.copy_, run_underlying ht, sizeOf, typeInfo, hi', Builtin.lenOf, hmin, hf, hst]
theorem OwnB.appended (E : ElT P t e K bytes) {w : World} {g cap : Nat} {l : List α} (h : OwnB K e w g cap l) (m : List α) (hfit : l.length + m.length ≤ cap) (n k r : Nat) (sp : Option Addr) (sc : Nat) (hn : n = l.length) (hk : k = m.length) (hr : r = l.length + m.length)
    (hsrc : 0 < m.length → ∃ sg so, sp = some ⟨sg, so, none⟩ ∧ ∀ j u, (K.encs m)[j]? = some u → w.cell? ⟨sg, so + j, none⟩ = some u) :
    ∃ w', (∀ ty, (Builtin.append_ #[t, t] ty #[.slice (some ⟨g, 0, none⟩) n cap, .slice sp k sc]).run P w = .ok (.slice (some ⟨g, 0, none⟩) r cap) w') ∧ OwnB K e w' g cap (l ++ m) ∧ Kp (fun k => k = g) w w' := by
  subst hn hk hr
  obtain ⟨ht, i, z, hi', hz, hsize, hby, hzs⟩ := E
  by_cases h0 : m.length = 0
  · obtain rfl : m = [] := List.eq_nil_of_length_eq_zero h0
    have hlc : l.length ≤ cap := by simpa using hfit
    refine ⟨w, fun ty => ?_, by simpa using h, Kp.refl _ _⟩
    cases sp with
    | none => simp [Builtin.append_, run_underlying ht, sizeOf, typeInfo, hi', Builtin.lenOf, Builtin.firstCells, storeCells, hlc]
    | some a => simp [Builtin.append_, run_underlying ht, sizeOf, typeInfo, hi', Builtin.lenOf, Builtin.firstCells, loadCells, loadCellsFrom, storeCells, hlc]
  · obtain ⟨sg, so, rfl, hcell⟩ := hsrc (by omega)
    obtain ⟨cur, hb, hle, hcs, hw⟩ := h.write l.length m (Nat.le_refl _) hfit
    simp only [List.take_length, List.drop_eq_nil_of_le (Nat.le_add_right l.length m.length), List.append_nil] at hw
    refine ⟨_, fun ty => ?_, hw, (Kp.refl (fun k => k = g) w).setRow (fun _ => rfl) _⟩
    have := run_append_room (P := P) w t ty e i ht hi' g l.length cap cur hb ⟨sg, so, none⟩ m.length sc (K.encs m) (by rw [K.length_encs, hsize]) (fun j u hu => by simp only [Addr.add_lit]; exact hcell j u hu) (K.oneCell m) hfit (by rw [K.length_encs, hsize, ← Nat.add_mul]; exact hle)
    rw [this, hsize, K.length_encs, ← Nat.add_mul]
theorem zero_encs (K : Kd α) (zc : Array Value) (z0 : α) (hz : zc.toList = K.enc z0) (k : Nat) : (Builtin.zeroCells zc k).toList = K.encs (List.replicate k z0) := by
  have hs : zc.size = K.sz := by rw [← K.len z0, ← hz]; simp
  have hp : 0 < zc.size := by rw [hs]; exact K.pos
  apply List.ext_getElem?
  intro j
  by_cases hj : j < k * zc.size
  · have hq : j / zc.size < k := by rw [Nat.div_lt_iff_lt_mul hp]; exact hj
    have h1 := K.encs_get (List.replicate k z0) (j / zc.size) (j % zc.size) z0 (by simp [hq]) (by rw [← hs]; exact Nat.mod_lt _ hp)
    rw [← hs, Nat.div_add_mod' j zc.size] at h1
    rw [h1, ← hz]
    simp only [Builtin.zeroCells, Array.toList_map, Array.toList_range, List.getElem?_map]
    rw [List.getElem?_range hj, Option.map_some, getElem!_pos zc _ (Nat.mod_lt _ hp)]
    simp [Nat.mod_lt _ hp]
  · rw [List.getElem?_eq_none (by rw [Array.length_toList, size_zeroCells]; omega), List.getElem?_eq_none (by rw [K.length_encs, List.length_replicate, ← hs]; omega)]
/-- 'append(s[:i], make([]T, k)...)' that grows. -/
theorem OwnB.appendMake (E : ElT P t e K bytes) (z0 : α) (hz0 : ∀ z, (P.info? e).bind (·.zero) = some z → z.cells.toList = K.enc z0) (ti : TypeId) (hti : P.underlying ti = some (.int .i64)) {w : World} {g cap : Nat} {l : List α} (h : OwnB K e w g cap l) (k n r : Nat) (hn : n = l.length) (hr : r = l.length + k) (hgrow : cap < l.length + k)
    (h63 : l.length + k ≤ 1000000000000) (hbytes : (l.length + k) * bytes ≤ 140737488355328) (hc : cap ≤ maxLen) (kx : Int) (hk : kx = k) :
    ∃ w' cap', (∀ ty, (Builtin.append_ #[t, ti] ty #[.slice (some ⟨g, 0, none⟩) n cap, .int .i64 kx]).run P w = .ok (.slice (some ⟨w.heap.size, 0, none⟩) r cap') w') ∧ OwnB K e w' w.heap.size cap' (l ++ List.replicate k z0) ∧ cap' ≤ maxLen ∧ Kp No w w' := by
  subst hn hr hk
  obtain ⟨ht, i, z, hi', hz, hsize, hby, hzs⟩ := E
  have hzl : z.cells.toList = K.enc z0 := hz0 z (by simp [hi', hz])
  have hcells : (K.encs l).length = l.length * i.size := by rw [K.length_encs, hsize]
  have hlc := h.choose_spec.2.1
  have hf := run_firstCells_some (P := P) w.drew i.size l.length ⟨g, 0, none⟩ l.length cap (K.encs l) hcells (fun j u hu => by simp only [Addr.add_lit, Nat.zero_add]; exact h.drew.cells j u hu)
  have hzc : (Builtin.zeroCells z.cells k).toList = K.encs (List.replicate k z0) := zero_encs K z.cells z0 hzl k
  have hge := grownCap_ge w (l.length + k) cap e
  have hle := grownCap_le_maxLen w (l.length + k) cap e (by unfold maxLen; omega)
  have hfit := growslice_fits hgrow hbytes
  have hnn : ¬ (281474976710656 : Int) < (k : Int) * i.bytes := by
    have : k * i.bytes ≤ (l.length + k) * i.bytes := Nat.mul_le_mul_right _ (by omega)
    rw [hby] at this
    have h2 : k * i.bytes ≤ 140737488355328 := by rw [hby]; omega
    intro h3
    have h4 : ((k * i.bytes : Nat) : Int) = (k : Int) * i.bytes := by simp
    omega
  refine ⟨w.drew.alloc (.cells ((K.encs l).toArray ++ Builtin.zeroCells z.cells k ++ Builtin.zeroCells z.cells (grownCap w (l.length + k) cap e - (l.length + k))) e), grownCap w (l.length + k) cap e, fun ty => ?_, ?_, hle, (Kp.refl _ w).drew.alloc _⟩
  · have hk1 : IntKind.i64.wrap (k : Int) = (k : Int) := IntWalk.i64_in _ (by omega)
    have hk2 : ¬ ((k : Int) < 0) := by omega
    have hk3 : ¬ (9223372036854775807 : Int) < (l.length : Int) + (k : Int) := by omega
    have hroom : ¬ l.length + k ≤ cap := by omega
    have hfit' : ¬ 281474976710656 < Builtin.nextslicecap (l.length + k) cap * i.bytes := by rw [hby]; omega
    have hkp : 0 < k := by omega
    have hkz : ¬ k * i.size = 0 := by rw [hsize]; exact Nat.ne_of_gt (Nat.mul_pos hkp K.pos)
    have hkz1 : ¬ k = 0 := by omega
    have hkz2 : ¬ i.size = 0 := by rw [hsize]; exact Nat.ne_of_gt K.pos
    simp [Builtin.append_, run_underlying ht, run_underlying hti, sizeOf, typeInfo, hi', Builtin.lenOf, asInt, asIntOf, hk1, hk2, hk3, hnn, hroom, hfit', hkz1, hkz2, Question.forced, hf, newRow, grownCap, zeroValue, hz]
    exact fun h => absurd h hkz
  · refine ⟨_, blk_new w.drew _, by simp; omega, ?_, ?_⟩
    · simp only [Array.size_append, List.size_toArray, size_zeroCells, hzs, K.length_encs, ← Nat.add_mul]
      congr 1; omega
    · simp only [Array.toList_append, hzc, ← K.encs_append, List.append_assoc]
      rw [← K.length_encs]
      exact List.take_left
theorem OwnB.cleared (E : ElT P t e K bytes) (hz1 : ∀ z, (P.info? e).bind (·.zero) = some z → ∀ v ∈ z.cells.toList, v.oneCell' = true) {w : World} {g cap : Nat} {l : List α} (h : OwnB K e w g cap l) (o' n c : Nat) (ho : 0 < n → o' = l.length * K.sz) (hfit : l.length + n ≤ cap) :
    ∃ w', (∀ ty, (Builtin.clear_ #[t] ty #[.slice (some ⟨g, o', none⟩) n c]).run P w = .ok (.tuple #[]) w') ∧ OwnB K e w' g cap l ∧ Kp (fun k => k = g) w w' := by
  obtain ⟨ht, i, z, hi', hz, hsize, hby, hzs⟩ := E
  by_cases h0 : n = 0
  · subst h0
    exact ⟨w, fun ty => by simp [Builtin.clear_, run_underlying ht], h, Kp.refl _ _⟩
  obtain rfl := ho (by omega)
  have hone := hz1 z (by simp [hi', hz])
  have hlen : (Builtin.zeroCells z.cells n).toList.length = n * K.sz := by rw [Array.length_toList, size_zeroCells, hzs]
  have hall : ∀ v ∈ (Builtin.zeroCells z.cells n).toList, v.oneCell' = true := by
    intro v hv
    simp only [Builtin.zeroCells, Array.toList_map, List.mem_map] at hv
    obtain ⟨j, _, rfl⟩ := hv
    have hj : j % z.cells.size < z.cells.size := Nat.mod_lt _ (by rw [hzs]; exact K.pos)
    rw [getElem!_pos z.cells _ hj]
    exact hone _ (by simp)
  obtain ⟨cur, h1, h2, h3, h4⟩ := h
  have hle : (l.length + n) * K.sz ≤ cur.size := by rw [h3]; exact Nat.mul_le_mul_right _ hfit
  have hst := run_storeCells_at P g (l.length * K.sz) e (Builtin.zeroCells z.cells n).toList 0 cur w h1 (by rw [hlen]; have := Nat.add_mul l.length n K.sz; simp; omega) hall
  simp only [Nat.add_zero, hlen] at hst
  generalize hcs : (cur.toList.take (l.length * K.sz) ++ (Builtin.zeroCells z.cells n).toList ++ cur.toList.drop (l.length * K.sz + n * K.sz)).toArray = cs at hst
  refine ⟨w.setRow g cs, fun ty => ?_, ⟨cs, setRow_heap w g cur cs e _ h1, h2, ?_, ?_⟩, (Kp.refl (fun k => k = g) w).setRow (fun _ => rfl) _⟩
  · obtain ⟨n, rfl⟩ : ∃ m, n = m + 1 := ⟨n - 1, by omega⟩
    simp [Builtin.clear_, run_underlying ht, zeroValue, typeInfo, hi', hz, hst]
  · subst hcs
    simp only [List.size_toArray, List.length_append, List.length_take, List.length_drop, Array.length_toList, hlen]
    have := Nat.add_mul l.length n K.sz
    omega
  · subst hcs
    simp only [List.append_assoc]
    rw [List.take_append_of_le_length (by have := Nat.add_mul l.length n K.sz; simp; omega), List.take_take, Nat.min_self, h4]
end

/-- The step law of append, for the walk. -/
theorem wpl_append {α : Type} {K : Kd α} {P : Program} {t e : TypeId} {bytes : Nat} {w : World} (E : ElT P t e K bytes) {ops : Array Oper} {rest : List Oper} {o : Oper} {a : Act} {Q : Exit → Act → World → Prop} (hgd : o.guard = none) (s x : Operand)
    (ho : o.op = .call { callee := .builtin .append, args := #[s, x], argTypes := #[t, t] }) {v xv : Value} {l m : List α} (hs : a.eval s = v) (hxv : a.eval x = xv)
    (hown : Own K e w v l) (hx : Rd K w xv m) (h63 : l.length + m.length ≤ maxLen) (hbytes : (l.length + m.length) * bytes ≤ 140737488355328)
    (h : ∀ v' w', Own K e w' v' (l ++ m) → Kp (fun k => v.ownBlock = some k) w w' → (∀ g, v'.ownBlock = some g → v.ownBlock = some g ∨ w.heap.size ≤ g) → wpList P ops Q rest (a.put o.dst v') w') : wpList P ops Q (o :: rest) a w :=
  wpList_plain hgd fun _ hK => by
    obtain ⟨v', w', hr, h2, h3, h4⟩ := run_append E o.type hown hx h63 hbytes
    unfold Oper.wp execOp
    simp only [ho, resolve, invoke, builtin, Sem.run_bind, Sem.run_pure, Result.andThen_ok, List.map_toArray, List.map_cons, List.map_nil, hs, hxv, hr]
    exact hK _ _ (h v' w' h2 h3 h4)

/-- A builtin whose run is known. -/
theorem wpl_runAppend {P : Program} {w w' : World} {ops : Array Oper} {rest : List Oper} {o : Oper} {a : Act} {Q : Exit → Act → World → Prop} (hgd : o.guard = none) (s x : Operand) (t u : TypeId)
    (ho : o.op = .call { callee := .builtin .append, args := #[s, x], argTypes := #[t, u] }) {v xv v' : Value} (hs : a.eval s = v) (hxv : a.eval x = xv)
    (hr : ∀ ty, (Builtin.append_ #[t, u] ty #[v, xv]).run P w = .ok v' w') (h : wpList P ops Q rest (a.put o.dst v') w') : wpList P ops Q (o :: rest) a w :=
  wpList_plain hgd fun _ hK => by
    unfold Oper.wp execOp
    simp only [ho, resolve, invoke, builtin, Sem.run_bind, Sem.run_pure, Result.andThen_ok, List.map_toArray, List.map_cons, List.map_nil, hs, hxv, hr]
    exact hK _ _ h
theorem wpl_runCopy {P : Program} {w w' : World} {ops : Array Oper} {rest : List Oper} {o : Oper} {a : Act} {Q : Exit → Act → World → Prop} (hgd : o.guard = none) (s x : Operand) (t u : TypeId)
    (ho : o.op = .call { callee := .builtin .copy, args := #[s, x], argTypes := #[t, u] }) {v xv v' : Value} (hs : a.eval s = v) (hxv : a.eval x = xv)
    (hr : ∀ ty, (Builtin.copy_ #[t, u] ty #[v, xv]).run P w = .ok v' w') (h : wpList P ops Q rest (a.put o.dst v') w') : wpList P ops Q (o :: rest) a w :=
  wpList_plain hgd fun _ hK => by
    unfold Oper.wp execOp
    simp only [ho, resolve, invoke, builtin, Sem.run_bind, Sem.run_pure, Result.andThen_ok, List.map_toArray, List.map_cons, List.map_nil, hs, hxv, hr]
    exact hK _ _ h
theorem wpl_runClear {P : Program} {w w' : World} {ops : Array Oper} {rest : List Oper} {o : Oper} {a : Act} {Q : Exit → Act → World → Prop} (hgd : o.guard = none) (s : Operand) (t : TypeId)
    (ho : o.op = .call { callee := .builtin .clear, args := #[s], argTypes := #[t] }) {v v' : Value} (hs : a.eval s = v)
    (hr : ∀ ty, (Builtin.clear_ #[t] ty #[v]).run P w = .ok v' w') (h : wpList P ops Q rest (a.put o.dst v') w') : wpList P ops Q (o :: rest) a w :=
  wpList_plain hgd fun _ hK => by
    unfold Oper.wp execOp
    simp only [ho, resolve, invoke, builtin, Sem.run_bind, Sem.run_pure, Result.andThen_ok, List.map_toArray, List.map_cons, List.map_nil, hs, hr]
    exact hK _ _ h
end Go.Proofs.YtfpikgkbccgchaaGreatDoor

namespace Go.Proofs.YtfpikgkbccgchaaGreatDoor
set_option linter.unusedVariables false
set_option linter.unusedSimpArgs false

theorem snoc_ind {α : Type} {P : List α → Prop} (h0 : P []) (h1 : ∀ l a, P l → P (l ++ [a])) (l : List α) : P l := by
  rw [← List.reverse_reverse l]
  induction l.reverse with
  | nil => exact h0
  | cons a l ih => rw [List.reverse_cons]; exact h1 _ _ ih

/-- The many lowest bits of a number, the highest first. -/
def nbits (n : Nat) : Nat → List Bool
  | 0 => []
  | k + 1 => decide (n / 2 ^ k % 2 = 1) :: nbits n k
def bval (l : List Bool) : Nat := l.foldl (fun a b => 2 * a + b.toNat) 0

theorem nbits_len (n k : Nat) : (nbits n k).length = k := by
  induction k with
  | zero => rfl
  | succ k ih => simp [nbits, ih]
theorem bval_snoc (l : List Bool) (b : Bool) : bval (l ++ [b]) = 2 * bval l + b.toNat := by simp [bval]
theorem bval_append (l m : List Bool) : bval (l ++ m) = bval l * 2 ^ m.length + bval m := by
  induction m using snoc_ind with
  | h0 => simp [bval]
  | h1 m b ih =>
    rw [← List.append_assoc, bval_snoc, bval_snoc, ih, List.length_append, List.length_singleton, Nat.pow_succ]
    generalize bval l = x; generalize bval m = y; generalize 2 ^ m.length = z
    rw [Nat.mul_add, ← Nat.mul_assoc, Nat.mul_comm 2 x, Nat.mul_assoc x 2 z, Nat.mul_comm 2 z, Nat.add_assoc]
theorem bval_cons (b : Bool) (l : List Bool) : bval (b :: l) = b.toNat * 2 ^ l.length + bval l := by
  have := bval_append [b] l
  simpa [bval] using this
theorem bval_lt (l : List Bool) : bval l < 2 ^ l.length := by
  induction l with
  | nil => simp [bval]
  | cons b l ih =>
    rw [bval_cons, List.length_cons, Nat.pow_succ]
    cases b <;> simp <;> omega
theorem nbits_snoc (n k : Nat) : nbits n (k + 1) = nbits (n / 2) k ++ [decide (n % 2 = 1)] := by
  induction k with
  | zero => simp [nbits]
  | succ k ih =>
    show decide (n / 2 ^ (k + 1) % 2 = 1) :: nbits n (k + 1) = decide (n / 2 / 2 ^ k % 2 = 1) :: nbits (n / 2) k ++ [decide (n % 2 = 1)]
    rw [ih, Nat.div_div_eq_div_mul, Nat.pow_succ, Nat.mul_comm 2]
    rfl
theorem bval_nbits (n k : Nat) : bval (nbits n k) = n % 2 ^ k := by
  induction k generalizing n with
  | zero => simp [nbits, bval, Nat.mod_one]
  | succ k ih =>
    rw [nbits_snoc, bval_snoc, ih, Nat.pow_succ, Nat.mul_comm (2 ^ k) 2, Nat.mod_mul]
    have : (decide (n % 2 = 1)).toNat = n % 2 := by
      rcases Nat.mod_two_eq_zero_or_one n with h | h <;> simp [h]
    omega
theorem nbits_bval (l : List Bool) : nbits (bval l) l.length = l := by
  induction l using snoc_ind with
  | h0 => rfl
  | h1 l b ih =>
    rw [List.length_append, List.length_singleton, nbits_snoc, bval_snoc]
    have h1 : (2 * bval l + b.toNat) / 2 = bval l := by cases b <;> simp <;> omega
    have h2 : decide ((2 * bval l + b.toNat) % 2 = 1) = b := by cases b <;> simp <;> omega
    rw [h1, h2, ih]
theorem nbits_get (n k j : Nat) (h : j < k) : (nbits n k)[j]? = some (decide (n / 2 ^ (k - 1 - j) % 2 = 1)) := by
  induction k generalizing j with
  | zero => omega
  | succ k ih =>
    cases j with
    | zero => simp [nbits]
    | succ j =>
      simp only [nbits, List.getElem?_cons_succ]
      rw [ih j (by omega), show k + 1 - 1 - (j + 1) = k - 1 - j by omega]

/-- Bits as bytes: the last one is filled up by zeros. -/
def byteOf (c : List Bool) : Nat := bval (c ++ List.replicate (8 - c.length) false)
def packB (l : List Bool) : List Nat := if h : l = [] then [] else byteOf (l.take 8) :: packB (l.drop 8)
termination_by l.length
decreasing_by
  have : 0 < l.length := List.length_pos_iff.2 h
  simp; omega
def unpackB (b : List Nat) : List Bool := b.flatMap fun x => nbits x 8

theorem packB_nil : packB [] = [] := by rw [packB]; simp
theorem packB_ne {l : List Bool} (h : l ≠ []) : packB l = byteOf (l.take 8) :: packB (l.drop 8) := by rw [packB]; simp [h]
theorem byteOf_lt (c : List Bool) (h : c.length ≤ 8) : byteOf c < 256 := by
  have := bval_lt (c ++ List.replicate (8 - c.length) false)
  rw [List.length_append, List.length_replicate, show c.length + (8 - c.length) = 8 by omega] at this
  exact this
theorem packB_lt (l : List Bool) : ∀ x ∈ packB l, x < 256 := by
  induction hn : l.length using Nat.strongRecOn generalizing l with
  | _ n ih =>
    by_cases h : l = []
    · subst h; rw [packB_nil]; simp
    · rw [packB_ne h]
      intro x hx
      simp only [List.mem_cons] at hx
      rcases hx with rfl | hx
      · exact byteOf_lt _ (by simp; omega)
      · have : 0 < l.length := List.length_pos_iff.2 h
        exact ih _ (by rw [← hn, List.length_drop]; omega) (l.drop 8) rfl x hx
theorem packB_len (l : List Bool) : (packB l).length = (l.length + 7) / 8 := by
  induction hn : l.length using Nat.strongRecOn generalizing l with
  | _ n ih =>
    by_cases h : l = []
    · subst h; rw [packB_nil]; simp at hn; subst hn; rfl
    · rw [packB_ne h]
      have : 0 < l.length := List.length_pos_iff.2 h
      rw [List.length_cons, ih (l.drop 8).length (by rw [← hn, List.length_drop]; omega) (l.drop 8) rfl, List.length_drop]
      omega
theorem unpack_pack (l : List Bool) : unpackB (packB l) = l ++ List.replicate (8 * ((l.length + 7) / 8) - l.length) false := by
  induction hn : l.length using Nat.strongRecOn generalizing l with
  | _ n ih =>
    by_cases h : l = []
    · subst h; rw [packB_nil]; simp at hn; subst hn; rfl
    · have hp : 0 < l.length := List.length_pos_iff.2 h
      rw [packB_ne h]
      have h8 : nbits (byteOf (l.take 8)) 8 = l.take 8 ++ List.replicate (8 - (l.take 8).length) false := by
        have := nbits_bval (l.take 8 ++ List.replicate (8 - (l.take 8).length) false)
        rw [List.length_append, List.length_replicate, show (l.take 8).length + (8 - (l.take 8).length) = 8 by simp; omega] at this
        exact this
      have ih' := ih (l.drop 8).length (by rw [← hn, List.length_drop]; omega) (l.drop 8) rfl
      unfold unpackB at ih' ⊢
      rw [List.flatMap_cons, ih', h8]
      by_cases h7 : 8 ≤ l.length
      · rw [show (l.take 8).length = 8 by simp; omega, Nat.sub_self, List.replicate_zero, List.append_nil, ← List.append_assoc, List.take_append_drop, List.length_drop]
        congr 2
        omega
      · rw [List.take_of_length_le (by omega), List.drop_eq_nil_of_le (by omega)]
        simp only [List.length_nil, List.nil_append, List.append_assoc]
        congr 1
        have e1 : 8 * ((0 + 7) / 8) - 0 = 0 := by decide
        rw [e1, List.replicate_zero, List.append_nil]
        congr 1
        omega
theorem pack_unpack (b : List Nat) (hb : ∀ x ∈ b, x < 256) : packB (unpackB b) = b := by
  induction b with
  | nil => exact packB_nil
  | cons x b ih =>
    have hl := nbits_len x 8
    have hne : unpackB (x :: b) ≠ [] := by
      intro h
      have := congrArg List.length h
      simp [unpackB, hl] at this
    rw [packB_ne hne]
    have h1 : (unpackB (x :: b)).take 8 = nbits x 8 := by
      unfold unpackB; rw [List.flatMap_cons]; exact (List.take_append_of_le_length (by rw [hl]; exact Nat.le_refl _)).trans (List.take_of_length_le (by rw [hl]; exact Nat.le_refl _))
    have h2 : (unpackB (x :: b)).drop 8 = unpackB b := by
      unfold unpackB; rw [List.flatMap_cons]
      rw [List.drop_append_of_le_length (by rw [hl]; exact Nat.le_refl _), List.drop_of_length_le (by rw [hl]; exact Nat.le_refl _), List.nil_append]
    rw [h1, h2, ih fun y hy => hb y (List.mem_cons_of_mem _ hy)]
    have : byteOf (nbits x 8) = x := by
      unfold byteOf
      rw [hl, Nat.sub_self, List.replicate_zero, List.append_nil, bval_nbits]
      exact Nat.mod_eq_of_lt (hb x List.mem_cons_self)
    rw [this]
theorem packB_zeros (l : List Bool) (k : Nat) (h : l.length + k ≤ 8 * ((l.length + 7) / 8)) : packB (l ++ List.replicate k false) = packB l := by
  have h1 := unpack_pack l
  have h2 := unpack_pack (l ++ List.replicate k false)
  rw [List.length_append, List.length_replicate] at h2
  have e : (l.length + k + 7) / 8 = (l.length + 7) / 8 := by omega
  rw [e, List.append_assoc, List.replicate_append_replicate] at h2
  have e2 : k + (8 * ((l.length + 7) / 8) - (l.length + k)) = 8 * ((l.length + 7) / 8) - l.length := by omega
  rw [e2, ← h1] at h2
  have := congrArg packB h2
  rwa [pack_unpack _ (packB_lt _), pack_unpack _ (packB_lt _)] at this
end Go.Proofs.YtfpikgkbccgchaaGreatDoor

namespace Go.Proofs.YtfpikgkbccgchaaGreatDoor
set_option linter.unusedVariables false
set_option linter.unusedSimpArgs false

theorem packB_append8 (l m : List Bool) (h : l.length % 8 = 0) : packB (l ++ m) = packB l ++ packB m := by
  induction hn : l.length using Nat.strongRecOn generalizing l with
  | _ n ih =>
    by_cases hl : l = []
    · subst hl; rw [packB_nil]; rfl
    · have hp : 0 < l.length := List.length_pos_iff.2 hl
      have h8 : 8 ≤ l.length := by omega
      have hne : l ++ m ≠ [] := by simp [hl]
      rw [packB_ne hne, packB_ne hl, List.take_append_of_le_length h8, List.drop_append_of_le_length h8, ih (l.drop 8).length (by rw [← hn, List.length_drop]; omega) (l.drop 8) (by rw [List.length_drop]; omega) rfl]
      rfl
theorem packB_small (c : List Bool) (h : 0 < c.length) (h8 : c.length ≤ 8) : packB c = [byteOf c] := by
  rw [packB_ne (by intro e; subst e; simp at h), List.take_of_length_le h8, List.drop_eq_nil_of_le h8, packB_nil]
/-- The last, unfinished byte. -/
def lastB (l : List Bool) : List Bool := l.drop (8 * (l.length / 8))
theorem lastB_len (l : List Bool) : (lastB l).length = l.length % 8 := by unfold lastB; rw [List.length_drop]; omega
theorem packB_last (l : List Bool) (b : Bool) : packB (l ++ [b]) = packB (l.take (8 * (l.length / 8))) ++ [byteOf (lastB l ++ [b])] := by
  have h1 : l ++ [b] = l.take (8 * (l.length / 8)) ++ (lastB l ++ [b]) := by unfold lastB; rw [← List.append_assoc, List.take_append_drop]
  have h2 : (l.take (8 * (l.length / 8))).length = 8 * (l.length / 8) := by rw [List.length_take]; omega
  have h3 := lastB_len l
  rw [h1, packB_append8 _ _ (by rw [h2]; omega), packB_small (lastB l ++ [b]) (by simp) (by rw [List.length_append, h3, List.length_singleton]; omega)]
theorem packB_head_len (l : List Bool) : (packB (l.take (8 * (l.length / 8)))).length = l.length / 8 := by
  rw [packB_len, List.length_take]; omega
theorem packB_false (l : List Bool) : packB (l ++ [false]) = if l.length % 8 = 0 then packB l ++ [0] else packB l := by
  split
  · rename_i h
    rw [packB_append8 l [false] h]
    congr 1
    rw [packB_small _ (by simp) (by simp)]
    rfl
  · rename_i h
    exact packB_zeros l 1 (by omega)
theorem or_fact : ∀ k : Fin 8, ∀ y : Fin 128, (2 * y.val) * 2 ^ (7 - k.val) ||| (128 / 2 ^ k.val) = (2 * y.val + 1) * 2 ^ (7 - k.val) := by decide
theorem byteOf_bit (c : List Bool) (b : Bool) (h : c.length < 8) : byteOf (c ++ [b]) = (2 * bval c + b.toNat) * 2 ^ (7 - c.length) := by
  unfold byteOf
  rw [bval_append, bval_snoc, List.length_replicate, List.length_append, List.length_singleton]
  have : ∀ n, bval (List.replicate n false) = 0 := by
    intro n
    induction n with
    | zero => rfl
    | succ n ih => rw [List.replicate_succ, bval_cons, ih]; simp
  rw [this, show 8 - (c.length + 1) = 7 - c.length by omega]
  rfl
theorem byteOf_or (c : List Bool) (h : c.length < 8) : byteOf (c ++ [true]) = byteOf (c ++ [false]) ||| (128 / 2 ^ c.length) := by
  rw [byteOf_bit c _ h, byteOf_bit c _ h]
  have hlt := bval_lt c
  have : 2 ^ c.length ≤ 2 ^ 7 := Nat.pow_le_pow_right (by decide) (by omega)
  exact (or_fact ⟨c.length, h⟩ ⟨bval c, by omega⟩).symm
/-- A bit that is 1 is laid into the byte where a 0 was laid. -/
theorem packB_true (l : List Bool) : ∃ x, (packB (l ++ [false]))[l.length / 8]? = some x ∧ x < 256 ∧ packB (l ++ [true]) = (packB (l ++ [false])).set (l.length / 8) (x ||| (128 / 2 ^ (l.length % 8))) := by
  have h3 := lastB_len l
  have hh := packB_head_len l
  refine ⟨byteOf (lastB l ++ [false]), ?_, byteOf_lt _ (by rw [List.length_append, h3, List.length_singleton]; omega), ?_⟩
  · rw [packB_last, List.getElem?_append_right (by omega), hh]; simp
  · rw [packB_last, packB_last, List.set_append_right _ _ (by omega), hh, Nat.sub_self, byteOf_or _ (by omega), h3]
    rfl
end Go.Proofs.YtfpikgkbccgchaaGreatDoor

namespace Go.Proofs.YtfpikgkbccgchaaGreatDoor
set_option linter.unusedVariables false
set_option linter.unusedSimpArgs false

/-- A number's two bytes. -/
def twoP (n : Nat) : List Nat := packB (nbits n 16)
theorem twoP_len (n : Nat) : (twoP n).length = 2 := by unfold twoP; rw [packB_len, nbits_len]
theorem twoP_lt (n : Nat) : ∀ x ∈ twoP n, x < 256 := packB_lt _
theorem unpackB_len2 (l : List Nat) : (unpackB l).length = 8 * l.length := by
  induction l with
  | nil => rfl
  | cons a l ih =>
    have : unpackB (a :: l) = nbits a 8 ++ unpackB l := by simp [unpackB]
    rw [this, List.length_append, ih, nbits_len, List.length_cons]; omega
/-- The number of two bytes. -/
def valP (l : List Nat) : Nat := bval (unpackB l)
theorem valP_lt (l : List Nat) (h : l.length = 2) : valP l < 65536 := by
  have := bval_lt (unpackB l)
  rw [unpackB_len2, h] at this
  exact this
theorem twoP_valP (l : List Nat) (h : l.length = 2) (hl : ∀ x ∈ l, x < 256) : twoP (valP l) = l := by
  unfold twoP valP
  have := nbits_bval (unpackB l)
  rw [unpackB_len2, h] at this
  rw [this, pack_unpack l hl]
theorem valP_twoP (n : Nat) (h : n < 65536) : valP (twoP n) = n := by
  unfold twoP valP
  rw [unpack_pack, nbits_len]
  rw [show 8 * ((16 + 7) / 8) - 16 = 0 from rfl, List.replicate_zero, List.append_nil, bval_nbits]
  exact Nat.mod_eq_of_lt h

/-- The frame of bytes. -/
def frameP (b : List Nat) : List Nat := (twoP b.length ++ b) ++ twoP (crc 65535 (twoP b.length ++ b))
theorem frameP_len (b : List Nat) : (frameP b).length = b.length + 4 := by unfold frameP; simp only [List.length_append, twoP_len]; omega
theorem frameP_lt (b : List Nat) (h : ∀ x ∈ b, x < 256) : ∀ x ∈ frameP b, x < 256 := by
  intro x hx
  unfold frameP at hx
  rcases List.mem_append.1 hx with hx | hx
  · rcases List.mem_append.1 hx with hx | hx
    · exact twoP_lt _ x hx
    · exact h x hx
  · exact twoP_lt _ x hx
def midP (f : List Nat) : List Nat := (f.drop 2).take (f.length - 2 - 2)
theorem midP_len (f : List Nat) (h : 4 ≤ f.length) : (midP f).length = f.length - 4 := by unfold midP; rw [List.length_take, List.length_drop]; omega
theorem midP_frameP (b : List Nat) : midP (frameP b) = b := by
  unfold midP
  rw [frameP_len]
  unfold frameP
  rw [List.append_assoc, List.drop_append_of_le_length (by rw [twoP_len]; exact Nat.le_refl _), List.drop_eq_nil_of_le (by rw [twoP_len]; exact Nat.le_refl _), List.nil_append, List.take_append_of_le_length (by omega), List.take_of_length_le (by omega)]
/-- Are bytes a frame? -/
def isF (f : List Nat) : Bool := decide (4 ≤ f.length) && decide (f.length ≤ 1004) && decide (frameP (midP f) = f)

/-- What the program looks at. -/
def sizeP (f : List Nat) : Nat :=
  if f.length < 4 then 0 else if f.length < valP (f.take 2) + 4 ∨ 1004 < valP (f.take 2) + 4 then 0
  else if valP ((f.drop (valP (f.take 2) + 4 - 2)).take 2) = crc 65535 (f.take (valP (f.take 2) + 4 - 2)) then valP (f.take 2) + 4 else 0

theorem isF_frameP (b : List Nat) (h : b.length ≤ 1000) : isF (frameP b) = true := by
  unfold isF
  rw [midP_frameP, frameP_len]
  simp; omega

theorem take_frame (b : List Nat) : (frameP b).take 2 = twoP b.length := by
  unfold frameP
  rw [List.append_assoc, List.take_append_of_le_length (by rw [twoP_len]; exact Nat.le_refl _), List.take_of_length_le (by rw [twoP_len]; exact Nat.le_refl _)]

theorem sizeP_isF (f : List Nat) (hf : ∀ x ∈ f, x < 256) : (sizeP f = f.length ∧ f.length ≠ 0) ↔ isF f = true := by
  constructor
  · rintro ⟨h, h0⟩
    unfold sizeP at h
    split at h
    · omega
    · split at h
      · omega
      · split at h
        · rename_i h4 hr hs
          have hm : (midP f).length = f.length - 4 := midP_len f (by omega)
          have hv : valP (f.take 2) = f.length - 4 := by omega
          have ht : (f.take 2).length = 2 := by rw [List.length_take]; omega
          have e1 : twoP (midP f).length = f.take 2 := by rw [hm, ← hv]; exact twoP_valP _ ht fun x hx => hf x (List.mem_of_mem_take hx)
          have e2 : f.take 2 ++ midP f = f.take (f.length - 2) := by
            unfold midP
            rw [show f.length - 2 = 2 + (f.length - 2 - 2) by omega, List.take_add]
            simp
          have hd : f.length - 4 + 4 - 2 = f.length - 2 := by omega
          rw [hv, hd] at hs
          have hl2 : ((f.drop (f.length - 2)).take 2) = f.drop (f.length - 2) := List.take_of_length_le (by rw [List.length_drop]; omega)
          rw [hl2] at hs
          have e3 : frameP (midP f) = f := by
            unfold frameP
            rw [e1, e2, ← hs, twoP_valP _ (by rw [List.length_drop]; omega) fun x hx => hf x (List.mem_of_mem_drop hx), List.take_append_drop]
          unfold isF
          rw [e3]
          simp; omega
        · omega
  · intro h
    unfold isF at h
    simp only [Bool.and_eq_true, decide_eq_true_eq] at h
    obtain ⟨⟨h1, h2⟩, h3⟩ := h
    refine ⟨?_, by omega⟩
    have hm : (midP f).length = f.length - 4 := midP_len f h1
    generalize midP f = b at *
    subst h3
    rw [frameP_len] at *
    have hv : valP ((frameP b).take 2) = b.length := by rw [take_frame, valP_twoP _ (by omega)]
    unfold sizeP
    rw [hv, frameP_len, if_neg (by omega), if_neg (by omega)]
    have hA : (twoP b.length ++ b).length = b.length + 4 - 2 := by rw [List.length_append, twoP_len]; omega
    have e1 : (frameP b).take (b.length + 4 - 2) = twoP b.length ++ b := by
      unfold frameP
      rw [List.take_append_of_le_length (by omega), List.take_of_length_le (by omega)]
    have e2 : ((frameP b).drop (b.length + 4 - 2)).take 2 = twoP (crc 65535 (twoP b.length ++ b)) := by
      unfold frameP
      rw [List.drop_append_of_le_length (by omega), List.drop_eq_nil_of_le (by omega), List.nil_append, List.take_of_length_le (by rw [twoP_len]; exact Nat.le_refl _)]
    rw [e1, e2, valP_twoP _ (crc_lt _ (by decide) _), if_pos rfl]
end Go.Proofs.YtfpikgkbccgchaaGreatDoor

namespace Go.Proofs.YtfpikgkbccgchaaGreatDoor
set_option linter.unusedVariables false
set_option linter.unusedSimpArgs false
open Go.RowKit

/-- A byte's cell. -/
def BK : Kd Nat := { sz := 1, enc := fun x => [.int .u8 (x : Int)], len := fun _ => rfl, one := by intro a v hv; simp at hv; subst hv; rfl, pos := by decide }
theorem elB : ElT Tryz.prog 41 5 BK 1 := ElT.of (z := .int .u8 0) (by kernel_rfl) (by kernel_rfl) rfl
theorem Rd.byteAt {w : World} {l : List Nat} {g o n cap : Nat} (h : Rd BK w (.slice (some ⟨g, o, none⟩) n cap) l) {i x : Nat} (hx : l[i]? = some x) : w.cell? ⟨g, o + i, none⟩ = some (.int .u8 (x : Int)) := by
  have := h.at rfl hx (j := 0) rfl
  simpa [BK] using this

theorem encs_BK (l : List Nat) : BK.encs l = l.map fun x => .int .u8 (x : Int) := by
  induction l with
  | nil => rfl
  | cons a l ih => rw [Kd.encs_cons, ih]; rfl
/-- A byte is stored into a slice that is owned. -/
theorem Own.setByte {w : World} {g cap n : Nat} {l : List Nat} (h : Own BK 5 w (.slice (some ⟨g, 0, none⟩) n cap) l) (d y : Nat) (hd : d < l.length) : Own BK 5 (w.setCell ⟨g, d, none⟩ (.int .u8 (y : Int))) (.slice (some ⟨g, 0, none⟩) n cap) (l.set d y) := by
  rcases h.b with ⟨e1, _⟩ | ⟨g', cap', e1, e2, e3, h1⟩
  · simp at e1
  simp only [Value.slice.injEq, Option.some.injEq, Addr.mk.injEq] at e1
  obtain ⟨⟨rfl, _⟩, rfl, rfl⟩ := e1
  obtain ⟨cur, a1, a2, a3, a4⟩ := h1
  have : OwnB BK 5 (w.setCell ⟨g, d, none⟩ (.int .u8 (y : Int))) g cap (l.set d y) := by
    refine ⟨_, blk_set a1 d _, by simpa using a2, by simpa using a3, ?_⟩
    rw [encs_BK] at a4 ⊢
    simp only [Array.toList_setIfInBounds, List.length_set, List.take_set, a4, List.map_set]
  have := this.own e2
  rwa [List.length_set] at this
theorem Own.free {w : World} {g cap n : Nat} {l : List Nat} (h : Own BK 5 w (.slice (some ⟨g, 0, none⟩) n cap) l) (i : Nat) : w.frozen? ⟨g, i, none⟩ = false := by
  rcases h.b with ⟨e1, _⟩ | ⟨g', cap', e1, e2, e3, h1⟩
  · simp at e1
  simp only [Value.slice.injEq, Option.some.injEq, Addr.mk.injEq] at e1
  obtain ⟨⟨rfl, _⟩, rfl, rfl⟩ := e1
  obtain ⟨cur, a1, a2, a3, a4⟩ := h1
  exact blk_free a1 i
theorem Own.setLow {w : World} {g cap n : Nat} {l : List Nat} (h : Own BK 5 w (.slice (some ⟨g, 0, none⟩) n cap) l) : n = l.length := by
  rcases h with ⟨e, _⟩ | ⟨_, _, _, e, _⟩ <;> simp at e
  omega

theorem bits_or_u8_nat (a b : Nat) (ha : a < 256) (hb : b < 256) : bits .or .u8 (a : Int) (b : Int) = ((a ||| b : Nat) : Int) := by
  have hx : a ||| b < 2 ^ 8 := Nat.or_lt_two_pow (by omega) (by omega)
  have h1 : (BitVec.ofInt 8 (a : Int)).toNat = a := by
    rw [BitVec.ofInt_natCast, BitVec.toNat_ofNat]; exact Nat.mod_eq_of_lt (by omega)
  have h2 : (BitVec.ofInt 8 (b : Int)).toNat = b := by
    rw [BitVec.ofInt_natCast, BitVec.toNat_ofNat]; exact Nat.mod_eq_of_lt (by omega)
  show IntKind.u8.wrap ((BitVec.ofInt 8 (a : Int) ||| BitVec.ofInt 8 (b : Int)).toNat : Int) = _
  rw [BitVec.toNat_or, h1, h2]
  show (((a ||| b : Nat) : Int) % 256) = _
  omega

/-- A writer that was made since w0: p points to it, it has laid l. -/
structure WrV (w0 : World) (p : Nat) (l : List Bool) (w : World) (V : Value) : Prop where
  blk : w.heap[p]? = some (.cells #[V, .int .i64 (l.length : Int)] 222 (0, 0))
  own : Own BK 5 w V (packB l)
  ne : ∀ g, V.ownBlock = some g → g ≠ p
  kp : Kp No w0 w
  po : w0.heap.size ≤ p
  vo : ∀ g, V.ownBlock = some g → w0.heap.size ≤ g
def AtW (w0 : World) (p : Nat) (l : List Bool) (w : World) : Prop := ∃ V, WrV w0 p l w V

theorem wr_fin {w0 w w5 : World} {p n : Nat} {l' : List Bool} {V x : Value} (h0 : Kp No w0 w) (hk : Kp (fun k => w0.heap.size ≤ k) w w5) (hb : w5.heap[p]? = some (.cells #[V, x] 222 (0, 0))) (ho : Own BK 5 w5 V (packB l'))
    (hne : ∀ g, V.ownBlock = some g → g ≠ p) (po : w0.heap.size ≤ p) (vo : ∀ g, V.ownBlock = some g → w0.heap.size ≤ g) (hn : l'.length = n + 1) : AtW w0 p l' (w5.setCell ⟨p, 1, none⟩ (.int .i64 ((n : Int) + 1))) := by
  refine ⟨V, ?_, ho.kp ((Kp.refl (fun k => k = p) w5).setCell (p := ⟨p, 1, none⟩) (fun _ => rfl) _) hne, hne, ?_, po, vo⟩
  · have : ((l'.length : Nat) : Int) = (n : Int) + 1 := by omega
    rw [this]
    exact (blk_set hb 1 _).trans rfl
  · exact h0.trans' (hk.trans' ((Kp.refl (fun k => k = p) w5).setCell (p := ⟨p, 1, none⟩) (fun _ => rfl) _) (fun k _ e => by subst e; exact po)) (fun k hk h => by omega)

theorem newW_any (w : World) : Calls Tryz.prog 146 #[] w fun e w' => e = .returned (.pointer (some ⟨w.heap.size, 0, none⟩)) ∧ AtW w w.heap.size [] w' := by
  go_enter Tryz.func146, Tryz.ntmps146
  go_wp2
  go_ret
  refine ⟨rfl, .slice none 0 0, blk_new w _, ?_, by simp [Value.ownBlock], (Kp.refl _ _).alloc _, Nat.le_refl _, by simp [Value.ownBlock]⟩
  rw [packB_nil]
  exact Own.nil _ _ _

set_option maxRecDepth 100000 in
theorem bit_any {w0 w : World} {p : Nat} {l : List Bool} (h : AtW w0 p l w) (hl : l.length < 1048576) (b : Bool) :
    Calls Tryz.prog 158 #[.pointer (some ⟨p, 0, none⟩), .bool b] w fun e w' => e = .returned (.tuple #[]) ∧ AtW w0 p (l ++ [b]) w' := by
  obtain ⟨V, h⟩ := h
  have hc1 := (blk_cell h.blk 0).trans rfl
  have hc2 := (blk_cell h.blk 1).trans rfl
  have hf0 := blk_free h.blk 0
  have hf1 := blk_free h.blk 1
  simp only [List.getElem?_toArray, List.getElem?_cons_zero, List.getElem?_cons_succ] at hc1 hc2
  obtain ⟨A, cap, rfl⟩ := h.own.rd.shape
  have H := Lib.hid h
  obtain ⟨n, hn⟩ : ∃ n, n = l.length := ⟨_, rfl⟩
  rw [← hn] at hc2
  obtain ⟨x, hx1, hx2, hx3⟩ := packB_true l
  have hpl := packB_false l
  have hplen := packB_len l
  rw [← hn] at hx1 hx3 hpl hplen
  obtain ⟨d, hd⟩ : ∃ d, d = n / 8 := ⟨_, rfl⟩
  obtain ⟨m, hm⟩ : ∃ m, m = n % 8 := ⟨_, rfl⟩
  rw [← hd] at hx1 hx3
  rw [← hm] at hx3 hpl
  have HX1 := Lib.hid hx1; have HPL := Lib.hid hpl
  have hn8 : n < 1048576 := by omega
  have hm8 : m < 8 := by omega
  have hT1 : (n : Int) % 8 = (m : Int) := by omega
  have hT2 : (n : Int).tmod 8 = (m : Int) := by rw [Int.tmod_eq_emod_of_nonneg (by omega)]; omega
  have hD1 : (n : Int) / 8 = (d : Int) := by omega
  have hD2 : (n : Int).tdiv 8 = (d : Int) := by rw [Int.tdiv_eq_ediv_of_nonneg (by omega)]; omega
  have hD3 : IntKind.i64.wrap (d : Int) = (d : Int) := IntWalk.i64_in _ (by omega)
  have hD4 : IntKind.i64.wrap (m : Int) = (m : Int) := IntWalk.i64_in _ (by omega)
  obtain ⟨y, hy⟩ : ∃ y, y = x ||| 128 / 2 ^ m := ⟨_, rfl⟩
  rw [← hy] at hx3
  have hor : bits .or .u8 (x : Int) ((128 : Int) / 2 ^ m) = (y : Int) := by
    have := bits_or_u8_nat x (128 / 2 ^ m) hx2 (by have := Nat.div_le_self 128 (2 ^ m); omega)
    rw [hy, ← this]
    congr 1
  clear hy
  have hpb : (packB l).length ≤ 200000 := by omega
  have HNN := Lib.hid hn
  have HX3 := Lib.hid hx3
  clear h hx1 hx3 hpl hplen hn hl hd hm
  by_cases hm : m = 0
  · have hq : packB l ++ [0] = packB (l ++ [false]) := by rw [HPL.out, if_pos hm]
    have HQ := Lib.hid hq
    have hm0 : ((m : Int) == 0) = true := by simp [hm]
    clear hq hm
    go_enter Tryz.func158, Tryz.ntmps158
    go_wp2_with (at_builtin; refine wpl_append elB rfl (.tmp 14) (.tmp 15) rfl rfl rfl (l := packB l) (m := [0]) ?c1 ?c2 ?c3 ?c4 ?c5)
    case c1 => exact H.out.own.alloc _
    case c2 => exact Rd.litAt BK 5 _ _ [0] rfl (by unfold maxLen; simp) _ _ rfl rfl
    case c3 => show (packB l).length + 1 ≤ maxLen; unfold maxLen; omega
    case c4 => show ((packB l).length + 1) * 1 ≤ _; omega
    case c5 =>
      intro v' w' k1 k2 k3
      rw [HQ.out] at k1
      obtain ⟨A5, q5, rfl⟩ := k1.rd.shape
      have hb1 : w'.heap[p]? = some (.cells #[.slice A (packB l).length cap, .int .i64 (n : Int)] 222 (0, 0)) := by
        have h := k2.blk (blk_alloc H.out.blk _) (fun e => H.out.ne _ e rfl)
        rwa [← HNN.out] at h
      have K1 := Lib.hid k1; have K2 := Lib.hid k2; have K3 := Lib.hid k3; have HB1 := Lib.hid hb1
      have hbf1 := blk_free hb1 0
      have hbf2 := blk_free hb1 1
      have hbc0 := (blk_cell hb1 0).trans rfl
      have hbc2 := (blk_cell hb1 1).trans rfl
      simp only [List.getElem?_toArray, List.getElem?_cons_zero, List.getElem?_cons_succ] at hbc0 hbc2
      have hpw := lt_of_block hb1
      rcases K1.out.b with ⟨e1, e2⟩ | ⟨g5, cap5, e1, e2, e3⟩
      · have := HX1.out; rw [e2] at this; simp at this
      simp only [Value.slice.injEq] at e1
      obtain ⟨rfl, _, rfl⟩ := e1
      have hdl : d < (packB (l ++ [false])).length := (List.getElem?_eq_some_iff.1 HX1.out).1
      have hdlI : (d : Int) < ((packB (l ++ [false])).length : Int) := by omega
      have VO : Hid (∀ g, (Value.slice (some ⟨g5, 0, none⟩) (packB (l ++ [false])).length q5).ownBlock = some g → w0.heap.size ≤ g) := fun g hg => by
        rcases K3.out g hg with h | h
        · exact H.out.vo g h
        · have := H.out.kp.size; first | omega | (simp at h; omega)
      have KA : Hid (Kp (fun k => w0.heap.size ≤ k) w w') := ((Kp.refl _ w).alloc _).trans' K2.out (fun k _ e => H.out.vo k e)
      have hgp : g5 ≠ p := fun e => by
        rcases K3.out g5 rfl with h | h
        · exact H.out.ne g5 h e
        · have := lt_of_block H.out.blk; omega
      have hblk : (w'.setCell ⟨p, 0, none⟩ (.slice (some ⟨g5, 0, none⟩) (packB (l ++ [false])).length q5)).heap[p]? = some (.cells #[.slice (some ⟨g5, 0, none⟩) (packB (l ++ [false])).length q5, .int .i64 (n : Int)] 222 (0, 0)) := (blk_set HB1.out 0 _).trans rfl
      have hs0 := (blk_cell hblk 0).trans rfl
      have hs1 := (blk_cell hblk 1).trans rfl
      have hsf := blk_free hblk 1
      have hown := K1.out.kp ((Kp.refl (fun k => k = p) w').setCell (p := ⟨p, 0, none⟩) (fun _ => rfl) (.slice (some ⟨g5, 0, none⟩) (packB (l ++ [false])).length q5)) (fun g hg e => by simp [Value.ownBlock] at hg; omega)
      have hxc := hown.rd.byteAt HX1.out
      rw [Nat.zero_add] at hxc
      simp only [List.getElem?_toArray, List.getElem?_cons_zero, List.getElem?_cons_succ] at hs0 hs1
      have HBK := Lib.hid hblk; have HOW := Lib.hid hown
      clear hblk hown k1 k2 k3 hb1
      have hn1 : IntKind.i64.wrap ((n : Int) + 1) = (n : Int) + 1 := IntWalk.i64_in _ (by omega)
      cases b with
      | false =>
        go_wp2
        go_end0
        refine ⟨rfl, wr_fin H.out.kp (KA.out.trans' ((Kp.refl (fun k => k = p) w').setCell (p := ⟨p, 0, none⟩) (fun _ => rfl) _) (fun k _ e => by subst e; exact H.out.po)) HBK.out HOW.out (fun g hg => by simp [Value.ownBlock] at hg; omega) H.out.po (fun g hg => ?_) (by rw [HNN.out]; simp)⟩
        exact VO.out g hg
      | true =>
        clear hs0 hs1 hsf hxc
        go_wp2
        obtain ⟨w5, hw5⟩ : ∃ w5 : World, w5 = w'.setCell ⟨p, 0, none⟩ (.slice (some ⟨g5, 0, none⟩) (packB (l ++ [false])).length q5) := ⟨_, rfl⟩
        rw [← hw5] at HBK HOW
        rw [← hw5]
        have KW : Hid (Kp (fun k => k = p) w' w5) := hw5 ▸ (Kp.refl (fun k => k = p) w').setCell (p := ⟨p, 0, none⟩) (fun _ => rfl) _
        have hs0 := (blk_cell HBK.out 0).trans rfl
        have hs1 := (blk_cell HBK.out 1).trans rfl
        have hsf := blk_free HBK.out 1
        have hxc := HOW.out.rd.byteAt HX1.out
        rw [Nat.zero_add] at hxc
        simp only [List.getElem?_toArray, List.getElem?_cons_zero, List.getElem?_cons_succ] at hs0 hs1
        clear hw5 hbc0 hbc2 hbf1 hbf2
        go_still_tail 19, (by kernel_rfl)
        have HB6 : Hid (w5.drew.heap[p]? = some (.cells #[.slice (some ⟨g5, 0, none⟩) (packB (l ++ [false])).length q5, .int .i64 (n : Int)] 222 (0, 0))) := HBK.out
        have HO6 : Hid (Own BK 5 w5.drew (.slice (some ⟨g5, 0, none⟩) (packB (l ++ [false])).length q5) (packB (l ++ [false]))) := HOW.out.kpNo (Kp.refl _ _).drew
        have KW6 : Hid (Kp (fun k => k = p) w' w5.drew) := KW.out.drew
        change wpList _ _ _ _ _ w5.drew
        clear hs0 hs1 hsf hxc HBK HOW KW
        generalize w5.drew = w6 at *
        have hxc := HO6.out.rd.byteAt HX1.out
        rw [Nat.zero_add] at hxc
        have hxf := HO6.out.free d
        have hq0 : (w6.setCell ⟨g5, d, none⟩ (.int .u8 (y : Int))).heap[p]? = some (.cells #[.slice (some ⟨g5, 0, none⟩) (packB (l ++ [false])).length q5, .int .i64 (n : Int)] 222 (0, 0)) := blk_far HB6.out (fun e => hgp e.symm) _
        have hq1 := (blk_cell hq0 1).trans rfl
        have hq2 := blk_free hq0 1
        have HQ0 := Lib.hid hq0
        simp only [List.getElem?_toArray, List.getElem?_cons_zero, List.getElem?_cons_succ] at hq1
        have hgp2 := Lib.hid hgp
        clear hq0 hgp
        go_wp2
        go_end0
        have ho := HO6.out.setByte d y (List.getElem?_eq_some_iff.1 HX1.out).1
        rw [← HX3.out] at ho
        refine ⟨rfl, wr_fin H.out.kp ((KA.out.trans' KW6.out (fun k _ e => by subst e; exact H.out.po)).trans' ((Kp.refl (fun k => k = g5) w6).setCell (p := ⟨g5, d, none⟩) (fun _ => rfl) _) (fun k _ e => by subst e; exact VO.out _ rfl)) HQ0.out ho (fun g hg => by have := hgp2.out; simp [Value.ownBlock] at hg; omega) H.out.po VO.out (by rw [HNN.out]; simp)⟩
  · have hq : packB l = packB (l ++ [false]) := by rw [HPL.out, if_neg hm]
    have hm0 : ((m : Int) == 0) = false := by simp [hm]
    have hown := H.out.own
    have hblk := H.out.blk
    rw [hq] at hown hblk hc1
    rw [← HNN.out] at hblk
    have HN := Lib.hid H.out.ne; have VO0 := Lib.hid H.out.vo; have HKP := Lib.hid H.out.kp; have HPO := Lib.hid H.out.po
    rw [hq] at HN VO0
    clear hq hm H hpb
    rcases hown.b with ⟨e1, e2⟩ | ⟨g5, cap5, e1, e2, e3⟩
    · have := HX1.out; rw [e2] at this; simp at this
    simp only [Value.slice.injEq] at e1
    obtain ⟨rfl, _, rfl⟩ := e1
    have hgp : g5 ≠ p := HN.out g5 rfl
    have VO := VO0
    have K1 := Lib.hid hown; have HB1 := Lib.hid hblk
    have hdl : d < (packB (l ++ [false])).length := (List.getElem?_eq_some_iff.1 HX1.out).1
    have hdlI : (d : Int) < ((packB (l ++ [false])).length : Int) := by omega
    have hs0 := (blk_cell HB1.out 0).trans rfl
    have hs1 := (blk_cell HB1.out 1).trans rfl
    have hsf := blk_free HB1.out 1
    have hxc := K1.out.rd.byteAt HX1.out
    rw [Nat.zero_add] at hxc
    simp only [List.getElem?_toArray, List.getElem?_cons_zero, List.getElem?_cons_succ] at hs0 hs1
    clear hown hblk
    have hn1 : IntKind.i64.wrap ((n : Int) + 1) = (n : Int) + 1 := IntWalk.i64_in _ (by omega)
    cases b with
    | false =>
      go_enter Tryz.func158, Tryz.ntmps158
      go_wp2
      go_end0
      exact ⟨rfl, wr_fin HKP.out (Kp.refl _ _) HB1.out K1.out HN.out HPO.out VO.out (by rw [HNN.out]; simp)⟩
    | true =>
      go_enter Tryz.func158, Tryz.ntmps158
      go_wp2
      go_still_tail 19, (by kernel_rfl)
      have HB6 : Hid (w.drew.heap[p]? = some (.cells #[.slice (some ⟨g5, 0, none⟩) (packB (l ++ [false])).length cap, .int .i64 (n : Int)] 222 (0, 0))) := HB1.out
      have HO6 : Hid (Own BK 5 w.drew (.slice (some ⟨g5, 0, none⟩) (packB (l ++ [false])).length cap) (packB (l ++ [false]))) := K1.out.kpNo (Kp.refl _ _).drew
      have KW6 : Hid (Kp No w w.drew) := (Kp.refl _ _).drew
      change wpList _ _ _ _ _ w.drew
      clear hs0 hs1 hsf hxc HB1 K1 hc1 hc2 hf0 hf1
      generalize w.drew = w6 at *
      have hxc := HO6.out.rd.byteAt HX1.out
      rw [Nat.zero_add] at hxc
      have hxf := HO6.out.free d
      have hq0 : (w6.setCell ⟨g5, d, none⟩ (.int .u8 (y : Int))).heap[p]? = some (.cells #[.slice (some ⟨g5, 0, none⟩) (packB (l ++ [false])).length cap, .int .i64 (n : Int)] 222 (0, 0)) := blk_far HB6.out (fun e => hgp e.symm) _
      have hq1 := (blk_cell hq0 1).trans rfl
      have hq2 := blk_free hq0 1
      have HQ0 := Lib.hid hq0
      simp only [List.getElem?_toArray, List.getElem?_cons_zero, List.getElem?_cons_succ] at hq1
      have hgp2 := Lib.hid hgp
      clear hq0 hgp
      go_wp2
      go_end0
      have ho := HO6.out.setByte d y (List.getElem?_eq_some_iff.1 HX1.out).1
      rw [← HX3.out] at ho
      refine ⟨rfl, wr_fin HKP.out ((KW6.out.mono fun _ _ h => h.elim).trans' ((Kp.refl (fun k => k = g5) w6).setCell (p := ⟨g5, d, none⟩) (fun _ => rfl) _) (fun k _ e => by subst e; exact VO.out _ rfl)) HQ0.out ho (fun g hg => by have := hgp2.out; simp [Value.ownBlock] at hg; omega) HPO.out VO.out (by rw [HNN.out]; simp)⟩
end Go.Proofs.YtfpikgkbccgchaaGreatDoor

namespace Go.Proofs.YtfpikgkbccgchaaGreatDoor
set_option linter.unusedVariables false
set_option linter.unusedSimpArgs false
open Go.RowKit

theorem AtW.kpNo {w0 w w' : World} {p : Nat} {l : List Bool} (h : AtW w0 p l w) (hk : Kp No w w') : AtW w0 p l w' :=
  let ⟨V, a, b, c, d, e, f⟩ := h
  ⟨V, hk.blk a (no_no _), b.kpNo hk, c, d.no hk, e, f⟩
theorem AtW.kp {w0 w : World} {p : Nat} {l : List Bool} (h : AtW w0 p l w) : Kp No w0 w := let ⟨_, h⟩ := h; h.kp

theorem bits_and_one (n k : Nat) (hn : n < 18446744073709551616) : bits .and .u64 ((n / 2 ^ k : Nat) : Int) 1 = ((n / 2 ^ k % 2 : Nat) : Int) := by
  have := bits_and_u64_nat (n / 2 ^ k) 1 (Nat.lt_of_le_of_lt (Nat.div_le_self _ _) hn) (by omega)
  rw [show ((1 : Nat) : Int) = 1 from rfl] at this
  rw [this, Nat.and_one_is_mod]

set_option maxRecDepth 100000 in
theorem put_any {w0 w : World} {p : Nat} {l : List Bool} (h : AtW w0 p l w) (n many : Nat) (hn : n < 18446744073709551616) (hm : many ≤ 64) (hl : l.length + many ≤ 1048576) :
    Calls Tryz.prog 147 #[.pointer (some ⟨p, 0, none⟩), .int .u64 (n : Int), .int .i64 (many : Int)] w fun e w' => e = .returned (.int .i64 0) ∧ AtW w0 p (l ++ nbits n many) w' := by
  have H := Lib.hid h
  have hc2 : w.cell? ⟨p, 1, none⟩ = some (.int .i64 (l.length : Int)) := by
    obtain ⟨V, hv⟩ := h
    exact (blk_cell hv.blk 1).trans rfl
  clear h
  have h1 : ¬ (many : Int) < 0 := by omega
  have h2 : ¬ (64 : Int) < (many : Int) := by omega
  have hw1 : IntKind.i64.wrap (1048576 - (l.length : Int)) = 1048576 - (l.length : Int) := IntWalk.i64_in _ (by omega)
  have h3 : ¬ 1048576 - (l.length : Int) < (many : Int) := by omega
  have hw2 : IntKind.i64.wrap ((many : Int) - 1) = (many : Int) - 1 := IntWalk.i64_in _ (by omega)
  go_enter Tryz.func147, Tryz.ntmps147
  go_wp2
  go_loopw [8] (fun i wr => ∃ k : Nat, i = .int .i64 ((k : Int) - 1) ∧ k ≤ many ∧ ∃ d, d ++ nbits n k = nbits n many ∧ AtW w0 p (l ++ d) wr) (fun i _ => (intOf i + 1).toNat)
  case atStart => exact ⟨many, rfl, Nat.le_refl _, [], rfl, by simpa using H.out⟩
  case round =>
    obtain ⟨k, rfl, hk, d, hd, hat⟩ := hrel
    have HAT := Lib.hid hat
    have HD := Lib.hid hd
    clear hat hd
    cases k with
    | zero =>
      go_wp2
      go_ret
      refine ⟨rfl, ?_⟩
      rw [← HD.out]
      simpa [nbits] using HAT.out
    | succ k =>
      have HLEN : Hid ((l ++ d).length < 1048576) := by
        show (l ++ d).length < 1048576
        have := congrArg List.length HD.out
        rw [List.length_append, nbits_len, nbits_len] at this
        rw [List.length_append]; omega
      have hcast : ((k + 1 : Nat) : Int) - 1 = (k : Int) := by omega
      rw [hcast]
      have hb := bits_and_one n k hn
      have hpow : (n : Int) / 2 ^ k = ((n / 2 ^ k : Nat) : Int) := by simp
      obtain ⟨b, hbb⟩ : ∃ b, b = decide (n / 2 ^ k % 2 = 1) := ⟨_, rfl⟩
      have hbv : (((n / 2 ^ k % 2 : Nat) : Int) == 1) = b := by
        rw [hbb]
        by_cases c : n / 2 ^ k % 2 = 1
        · simp [c]
        · simp [c]; omega
      have hk0 : (0 : Int) ≤ (k : Int) := by omega
      have hwk : IntKind.i64.wrap ((k : Int) - 1) = (k : Int) - 1 := IntWalk.i64_in _ (by omega)
      have hsn : d ++ [b] ++ nbits n k = nbits n many := by rw [← HD.out, hbb]; simp [nbits]
      have HSN := Lib.hid hsn
      have hk64 : k < 64 := by omega
      have hk64I : (k : Int) ≤ 64 := by omega
      clear hsn hbb hcast hn hm hl h1 h2 h3 hw1 hw2
      generalize ((n / 2 ^ k % 2 : Nat) : Int) = y at *
      generalize ((n / 2 ^ k : Nat) : Int) = q at *
      go_wp2_with fail
      refine (bit_any HAT.out HLEN.out b).mono ?_
      rintro e w5 ⟨rfl, a5⟩
      have A5 := Lib.hid a5
      clear a5
      go_wp2
      go_roundw
      case rel => exact ⟨k, rfl, by omega, d ++ [b], HSN.out, by have := A5.out; rwa [List.append_assoc] at this⟩
      case measure => simp [intOf]

/-- A list in new memory of its own is handed back. -/
def RetB (l : List Nat) (w : World) (en : Ending) (w' : World) : Prop := ∃ v', en = .returned v' ∧ Own BK 5 w' v' l ∧ Kp No w w' ∧ ∀ g, v'.ownBlock = some g → w.heap.size ≤ g

theorem Own.lenb {w : World} {v : Value} {l : List Nat} (h : Own BK 5 w v l) : l.length ≤ maxLen := by
  rcases h with ⟨_, e⟩ | ⟨g, cap, cur, _, _, h1, h2, _⟩
  · simp [e]
  · omega
set_option maxRecDepth 100000 in
theorem out_any {w0 w : World} {p : Nat} {l : List Bool} (h : AtW w0 p l w) (hl : l.length ≤ 1048576) : Calls Tryz.prog 150 #[.pointer (some ⟨p, 0, none⟩)] w (RetB (packB l) w) := by
  obtain ⟨V, h⟩ := h
  have hc1 := (blk_cell h.blk 0).trans rfl
  simp only [List.getElem?_toArray, List.getElem?_cons_zero, List.getElem?_cons_succ] at hc1
  obtain ⟨A, cap, rfl⟩ := h.own.rd.shape
  have hpl := packB_len l
  have hb : (packB l).length ≤ 200000 := by omega
  have H := Lib.hid h
  clear h hpl hl
  go_enter Tryz.func150, Tryz.ntmps150
  go_wp2_with (at_builtin; refine wpl_append elB rfl (.const (.slice none 0 0)) (.tmp 8) rfl rfl rfl (l := []) (m := packB l) ?c1 ?c2 ?c3 ?c4 ?c5)
  case c1 => exact Own.nil _ _ _
  case c2 => exact H.out.own.rd
  case c3 => show 0 + (packB l).length ≤ maxLen; unfold maxLen; omega
  case c4 => show (0 + (packB l).length) * 1 ≤ _; omega
  case c5 =>
    intro v' w' k1 k2 k3
    have K1 := Lib.hid k1; have K2 := Lib.hid k2; have K3 := Lib.hid k3
    clear k1 k2 k3
    go_wp2
    go_ret
    refine ⟨v', rfl, by simpa using K1.out, K2.out.mono fun k _ h => by simp [Value.ownBlock] at h, fun g hg => ?_⟩
    rcases K3.out g hg with h | h
    · simp [Value.ownBlock] at h
    · exact h
end Go.Proofs.YtfpikgkbccgchaaGreatDoor

namespace Go.Proofs.YtfpikgkbccgchaaGreatDoor
set_option linter.unusedVariables false
set_option linter.unusedSimpArgs false
open Go.RowKit

/-- How many bits a number needs. -/
def blen (n : Nat) : Nat := if h : n = 0 then 0 else blen (n / 2) + 1
termination_by n
decreasing_by omega
theorem blen_zero : blen 0 = 0 := by rw [blen]; simp
theorem blen_pos {n : Nat} (h : n ≠ 0) : blen n = blen (n / 2) + 1 := by rw [blen]; simp [h]
theorem blen_div (j : Nat) : ∀ n, 2 ^ j ≤ n → blen n = j + blen (n / 2 ^ j) := by
  induction j with
  | zero => intro n _; simp
  | succ j ih =>
    intro n h
    rw [Nat.pow_succ] at h
    have h0 : n ≠ 0 := by have := Nat.two_pow_pos j; omega
    rw [blen_pos h0, ih (n / 2) (by omega), Nat.div_div_eq_div_mul, Nat.pow_succ, Nat.mul_comm 2]
    omega
theorem blen_bound (n : Nat) : n < 2 ^ blen n ∧ (n ≠ 0 → 2 ^ (blen n - 1) ≤ n) := by
  induction n using Nat.strongRecOn with
  | _ n ih =>
    by_cases h : n = 0
    · subst h; rw [blen_zero]; simp
    · obtain ⟨h1, h2⟩ := ih (n / 2) (by omega)
      rw [blen_pos h, Nat.pow_succ]
      refine ⟨by omega, fun _ => ?_⟩
      by_cases h3 : n / 2 = 0
      · rw [h3, blen_zero]; simp; omega
      · have h4 := h2 h3
        have h5 : blen (n / 2) ≠ 0 := by rw [blen_pos h3]; omega
        obtain ⟨b, hb⟩ : ∃ b, blen (n / 2) = b + 1 := ⟨blen (n / 2) - 1, by omega⟩
        rw [hb] at h4 ⊢
        simp only [Nat.add_sub_cancel] at h4 ⊢
        rw [Nat.pow_succ]; omega

theorem blen_log (n : Nat) : blen n = if n = 0 then 0 else n.log2 + 1 := by
  induction n using Nat.strongRecOn with
  | _ n ih =>
    by_cases h : n = 0
    · subst h; rw [blen_zero]; rfl
    · rw [blen_pos h, ih (n / 2) (by omega), if_neg h, Nat.log2_def n]
      by_cases h2 : 2 ≤ n
      · rw [if_pos h2, if_neg (by omega)]
      · rw [if_neg h2, if_pos (by omega)]
set_option maxRecDepth 100000 in
theorem tab_log : ∀ x, (h : x < 256) → ((({ data := #[0, 1, 2, 2, 3, 3, 3, 3, 4, 4, 4, 4, 4, 4, 4, 4, 5, 5, 5, 5, 5, 5, 5, 5, 5, 5, 5, 5, 5, 5, 5, 5, 6, 6, 6, 6, 6, 6, 6, 6, 6, 6, 6, 6, 6, 6, 6, 6, 6, 6, 6, 6, 6, 6, 6, 6, 6, 6, 6, 6, 6, 6, 6, 6, 7, 7, 7, 7, 7, 7, 7, 7, 7, 7, 7, 7, 7, 7, 7, 7, 7, 7, 7, 7, 7, 7, 7, 7, 7, 7, 7, 7, 7, 7, 7, 7, 7, 7, 7, 7, 7, 7, 7, 7, 7, 7, 7, 7, 7, 7, 7, 7, 7, 7, 7, 7, 7, 7, 7, 7, 7, 7, 7, 7, 7, 7, 7, 7, 8, 8, 8, 8, 8, 8, 8, 8, 8, 8, 8, 8, 8, 8, 8, 8, 8, 8, 8, 8, 8, 8, 8, 8, 8, 8, 8, 8, 8, 8, 8, 8, 8, 8, 8, 8, 8, 8, 8, 8, 8, 8, 8, 8, 8, 8, 8, 8, 8, 8, 8, 8, 8, 8, 8, 8, 8, 8, 8, 8, 8, 8, 8, 8, 8, 8, 8, 8, 8, 8, 8, 8, 8, 8, 8, 8, 8, 8, 8, 8, 8, 8, 8, 8, 8, 8, 8, 8, 8, 8, 8, 8, 8, 8, 8, 8, 8, 8, 8, 8, 8, 8, 8, 8, 8, 8, 8, 8, 8, 8, 8, 8, 8, 8, 8, 8, 8, 8, 8, 8, 8, 8, 8, 8, 8, 8, 8, 8] } : ByteArray)[x]'h).toNat) = if x = 0 then 0 else x.log2 + 1 := by decide +kernel
set_option maxRecDepth 100000 in
theorem tab_ok (x : Nat) (h : x < 256) : ((({ data := #[0, 1, 2, 2, 3, 3, 3, 3, 4, 4, 4, 4, 4, 4, 4, 4, 5, 5, 5, 5, 5, 5, 5, 5, 5, 5, 5, 5, 5, 5, 5, 5, 6, 6, 6, 6, 6, 6, 6, 6, 6, 6, 6, 6, 6, 6, 6, 6, 6, 6, 6, 6, 6, 6, 6, 6, 6, 6, 6, 6, 6, 6, 6, 6, 7, 7, 7, 7, 7, 7, 7, 7, 7, 7, 7, 7, 7, 7, 7, 7, 7, 7, 7, 7, 7, 7, 7, 7, 7, 7, 7, 7, 7, 7, 7, 7, 7, 7, 7, 7, 7, 7, 7, 7, 7, 7, 7, 7, 7, 7, 7, 7, 7, 7, 7, 7, 7, 7, 7, 7, 7, 7, 7, 7, 7, 7, 7, 7, 8, 8, 8, 8, 8, 8, 8, 8, 8, 8, 8, 8, 8, 8, 8, 8, 8, 8, 8, 8, 8, 8, 8, 8, 8, 8, 8, 8, 8, 8, 8, 8, 8, 8, 8, 8, 8, 8, 8, 8, 8, 8, 8, 8, 8, 8, 8, 8, 8, 8, 8, 8, 8, 8, 8, 8, 8, 8, 8, 8, 8, 8, 8, 8, 8, 8, 8, 8, 8, 8, 8, 8, 8, 8, 8, 8, 8, 8, 8, 8, 8, 8, 8, 8, 8, 8, 8, 8, 8, 8, 8, 8, 8, 8, 8, 8, 8, 8, 8, 8, 8, 8, 8, 8, 8, 8, 8, 8, 8, 8, 8, 8, 8, 8, 8, 8, 8, 8, 8, 8, 8, 8, 8, 8, 8, 8, 8, 8] } : ByteArray)[x]'h).toNat) = blen x := by rw [tab_log x h, blen_log]
theorem blen_le {n k : Nat} (h : n < 2 ^ k) : blen n ≤ k := by
  by_cases h0 : n = 0
  · subst h0; rw [blen_zero]; omega
  · have := (blen_bound n).2 h0
    by_cases hk : blen n ≤ k
    · exact hk
    · have : 2 ^ k ≤ 2 ^ (blen n - 1) := Nat.pow_le_pow_right (by decide) (by omega)
      omega

theorem fin64 (x : Int) (t : Nat) (h : x = (t : Int)) (ht : t ≤ 64) : wrap64 x = (t : Int) := by
  subst h
  exact IntWalk.wrap64_in _ (by omega)

set_option maxRecDepth 100000 in
theorem len64_any (w : World) (n : Nat) (hn : n < 18446744073709551616) (r : Nat) (hr : r = blen n) : Calls Tryz.prog 159 #[.int .u64 (n : Int)] w fun e w' => e = .returned (.int .i64 (r : Int)) ∧ w' = w := by
  by_cases c0 : 4294967296 ≤ n
  · have c0I : (4294967296 : Int) ≤ (n : Int) := by omega
    have d0 := blen_div 32 n c0
    obtain ⟨q0, hq0⟩ : ∃ q0, q0 = n / 2 ^ 32 := ⟨_, rfl⟩
    rw [← hq0] at d0
    have lq0 : q0 < 4294967296 := by rw [hq0]; omega
    have iq0 : (n : Int) / 4294967296 = (q0 : Int) := by rw [hq0]; omega
    clear hq0
    by_cases c1 : 65536 ≤ q0
    · have c1I : (65536 : Int) ≤ (q0 : Int) := by omega
      have d1 := blen_div 16 q0 c1
      obtain ⟨q1, hq1⟩ : ∃ q1, q1 = q0 / 2 ^ 16 := ⟨_, rfl⟩
      rw [← hq1] at d1
      have lq1 : q1 < 65536 := by rw [hq1]; omega
      have iq1 : (q0 : Int) / 65536 = (q1 : Int) := by rw [hq1]; omega
      clear hq1
      by_cases c2 : 256 ≤ q1
      · have c2I : (256 : Int) ≤ (q1 : Int) := by omega
        have d2 := blen_div 8 q1 c2
        obtain ⟨q2, hq2⟩ : ∃ q2, q2 = q1 / 2 ^ 8 := ⟨_, rfl⟩
        rw [← hq2] at d2
        have lq2 : q2 < 256 := by rw [hq2]; omega
        have iq2 : (q1 : Int) / 256 = (q2 : Int) := by rw [hq2]; omega
        clear hq2
        have hb := blen_le (n := q2) (k := 8) (by omega)
        have hrr : r = 56 + blen q2 := by rw [hr, d0, d1, d2]; omega
        have hq8 : q2 < 256 := by omega
        have hq8I : (q2 : Int) < 256 := by omega
        have hq8J : ¬ (256 : Int) ≤ (q2 : Int) := by omega
        have HR := Lib.hid hrr
        clear hr hrr
        go_enter Tryz.func159, Tryz.ntmps159
        go_wp2
        simp only [tab_ok]
        go_ret
        refine ⟨?_, rfl⟩
        rw [HR.out]
        show Ending.returned (.int .i64 (wrap64 _)) = _
        rw [fin64 _ (56 + blen q2) ?_ (by omega)]
        rw [fin64 _ (blen q2) rfl (by omega)]
        omega
      · have c2I : ¬ (256 : Int) ≤ (q1 : Int) := by omega
        have hb := blen_le (n := q1) (k := 8) (by omega)
        have hrr : r = 48 + blen q1 := by rw [hr, d0, d1]; omega
        have hq8 : q1 < 256 := by omega
        have hq8I : (q1 : Int) < 256 := by omega
        have hq8J : ¬ (256 : Int) ≤ (q1 : Int) := by omega
        have HR := Lib.hid hrr
        clear hr hrr
        go_enter Tryz.func159, Tryz.ntmps159
        go_wp2
        simp only [tab_ok]
        go_ret
        refine ⟨?_, rfl⟩
        rw [HR.out]
        show Ending.returned (.int .i64 (wrap64 _)) = _
        rw [fin64 _ (48 + blen q1) ?_ (by omega)]
        rw [fin64 _ (blen q1) rfl (by omega)]
        omega
    · have c1I : ¬ (65536 : Int) ≤ (q0 : Int) := by omega
      by_cases c2 : 256 ≤ q0
      · have c2I : (256 : Int) ≤ (q0 : Int) := by omega
        have d2 := blen_div 8 q0 c2
        obtain ⟨q2, hq2⟩ : ∃ q2, q2 = q0 / 2 ^ 8 := ⟨_, rfl⟩
        rw [← hq2] at d2
        have lq2 : q2 < 256 := by rw [hq2]; omega
        have iq2 : (q0 : Int) / 256 = (q2 : Int) := by rw [hq2]; omega
        clear hq2
        have hb := blen_le (n := q2) (k := 8) (by omega)
        have hrr : r = 40 + blen q2 := by rw [hr, d0, d2]; omega
        have hq8 : q2 < 256 := by omega
        have hq8I : (q2 : Int) < 256 := by omega
        have hq8J : ¬ (256 : Int) ≤ (q2 : Int) := by omega
        have HR := Lib.hid hrr
        clear hr hrr
        go_enter Tryz.func159, Tryz.ntmps159
        go_wp2
        simp only [tab_ok]
        go_ret
        refine ⟨?_, rfl⟩
        rw [HR.out]
        show Ending.returned (.int .i64 (wrap64 _)) = _
        rw [fin64 _ (40 + blen q2) ?_ (by omega)]
        rw [fin64 _ (blen q2) rfl (by omega)]
        omega
      · have c2I : ¬ (256 : Int) ≤ (q0 : Int) := by omega
        have hb := blen_le (n := q0) (k := 8) (by omega)
        have hrr : r = 32 + blen q0 := by rw [hr, d0]
        have hq8 : q0 < 256 := by omega
        have hq8I : (q0 : Int) < 256 := by omega
        have hq8J : ¬ (256 : Int) ≤ (q0 : Int) := by omega
        have HR := Lib.hid hrr
        clear hr hrr
        go_enter Tryz.func159, Tryz.ntmps159
        go_wp2
        simp only [tab_ok]
        go_ret
        refine ⟨?_, rfl⟩
        rw [HR.out]
        show Ending.returned (.int .i64 (wrap64 _)) = _
        rw [fin64 _ (32 + blen q0) ?_ (by omega)]
        rw [fin64 _ (blen q0) rfl (by omega)]
        omega
  · have c0I : ¬ (4294967296 : Int) ≤ (n : Int) := by omega
    by_cases c1 : 65536 ≤ n
    · have c1I : (65536 : Int) ≤ (n : Int) := by omega
      have d1 := blen_div 16 n c1
      obtain ⟨q1, hq1⟩ : ∃ q1, q1 = n / 2 ^ 16 := ⟨_, rfl⟩
      rw [← hq1] at d1
      have lq1 : q1 < 65536 := by rw [hq1]; omega
      have iq1 : (n : Int) / 65536 = (q1 : Int) := by rw [hq1]; omega
      clear hq1
      by_cases c2 : 256 ≤ q1
      · have c2I : (256 : Int) ≤ (q1 : Int) := by omega
        have d2 := blen_div 8 q1 c2
        obtain ⟨q2, hq2⟩ : ∃ q2, q2 = q1 / 2 ^ 8 := ⟨_, rfl⟩
        rw [← hq2] at d2
        have lq2 : q2 < 256 := by rw [hq2]; omega
        have iq2 : (q1 : Int) / 256 = (q2 : Int) := by rw [hq2]; omega
        clear hq2
        have hb := blen_le (n := q2) (k := 8) (by omega)
        have hrr : r = 24 + blen q2 := by rw [hr, d1, d2]; omega
        have hq8 : q2 < 256 := by omega
        have hq8I : (q2 : Int) < 256 := by omega
        have hq8J : ¬ (256 : Int) ≤ (q2 : Int) := by omega
        have HR := Lib.hid hrr
        clear hr hrr
        go_enter Tryz.func159, Tryz.ntmps159
        go_wp2
        simp only [tab_ok]
        go_ret
        refine ⟨?_, rfl⟩
        rw [HR.out]
        show Ending.returned (.int .i64 (wrap64 _)) = _
        rw [fin64 _ (24 + blen q2) ?_ (by omega)]
        rw [fin64 _ (blen q2) rfl (by omega)]
        omega
      · have c2I : ¬ (256 : Int) ≤ (q1 : Int) := by omega
        have hb := blen_le (n := q1) (k := 8) (by omega)
        have hrr : r = 16 + blen q1 := by rw [hr, d1]
        have hq8 : q1 < 256 := by omega
        have hq8I : (q1 : Int) < 256 := by omega
        have hq8J : ¬ (256 : Int) ≤ (q1 : Int) := by omega
        have HR := Lib.hid hrr
        clear hr hrr
        go_enter Tryz.func159, Tryz.ntmps159
        go_wp2
        simp only [tab_ok]
        go_ret
        refine ⟨?_, rfl⟩
        rw [HR.out]
        show Ending.returned (.int .i64 (wrap64 _)) = _
        rw [fin64 _ (16 + blen q1) ?_ (by omega)]
        rw [fin64 _ (blen q1) rfl (by omega)]
        omega
    · have c1I : ¬ (65536 : Int) ≤ (n : Int) := by omega
      by_cases c2 : 256 ≤ n
      · have c2I : (256 : Int) ≤ (n : Int) := by omega
        have d2 := blen_div 8 n c2
        obtain ⟨q2, hq2⟩ : ∃ q2, q2 = n / 2 ^ 8 := ⟨_, rfl⟩
        rw [← hq2] at d2
        have lq2 : q2 < 256 := by rw [hq2]; omega
        have iq2 : (n : Int) / 256 = (q2 : Int) := by rw [hq2]; omega
        clear hq2
        have hb := blen_le (n := q2) (k := 8) (by omega)
        have hrr : r = 8 + blen q2 := by rw [hr, d2]
        have hq8 : q2 < 256 := by omega
        have hq8I : (q2 : Int) < 256 := by omega
        have hq8J : ¬ (256 : Int) ≤ (q2 : Int) := by omega
        have HR := Lib.hid hrr
        clear hr hrr
        go_enter Tryz.func159, Tryz.ntmps159
        go_wp2
        simp only [tab_ok]
        go_ret
        refine ⟨?_, rfl⟩
        rw [HR.out]
        show Ending.returned (.int .i64 (wrap64 _)) = _
        rw [fin64 _ (8 + blen q2) ?_ (by omega)]
        rw [fin64 _ (blen q2) rfl (by omega)]
        omega
      · have c2I : ¬ (256 : Int) ≤ (n : Int) := by omega
        have hb := blen_le (n := n) (k := 8) (by omega)
        have hrr : r = 0 + blen n := by rw [hr]; omega
        have hq8 : n < 256 := by omega
        have hq8I : (n : Int) < 256 := by omega
        have hq8J : ¬ (256 : Int) ≤ (n : Int) := by omega
        have HR := Lib.hid hrr
        clear hr hrr
        go_enter Tryz.func159, Tryz.ntmps159
        go_wp2
        simp only [tab_ok]
        go_ret
        refine ⟨?_, rfl⟩
        rw [HR.out]
        show Ending.returned (.int .i64 (wrap64 _)) = _
        rw [fin64 _ (0 + blen n) ?_ (by omega)]
        rw [fin64 _ (blen n) rfl (by omega)]
        omega
end Go.Proofs.YtfpikgkbccgchaaGreatDoor

namespace Go.Proofs.YtfpikgkbccgchaaGreatDoor
set_option linter.unusedVariables false
set_option linter.unusedSimpArgs false
open Go.RowKit

theorem nbits_zero (k : Nat) : nbits 0 k = List.replicate k false := by
  induction k with
  | zero => rfl
  | succ k ih => rw [nbits, ih, List.replicate_succ]; simp
/-- A count's bits. -/
def cbits (n : Nat) : List Bool := List.replicate (blen (n + 1) - 1) false ++ nbits (n + 1) (blen (n + 1))
theorem cbits_len (n : Nat) : (cbits n).length = 2 * blen (n + 1) - 1 := by
  have : blen (n + 1) ≠ 0 := by rw [blen_pos (by omega)]; omega
  unfold cbits
  rw [List.length_append, List.length_replicate, nbits_len]; omega

theorem put_at {w0 w : World} {p : Nat} {l : List Bool} (h : AtW w0 p l w) (n many : Nat) (hn : n < 18446744073709551616) (hm : many ≤ 64) (hl : l.length + many ≤ 1048576) (x y : Int) (hx : x = n) (hy : y = many) :
    Calls Tryz.prog 147 #[.pointer (some ⟨p, 0, none⟩), .int .u64 x, .int .i64 y] w fun e w' => e = .returned (.int .i64 0) ∧ AtW w0 p (l ++ nbits n many) w' := by
  subst hx hy; exact put_any h n many hn hm hl

set_option maxRecDepth 100000 in
theorem wcount_any {w0 w : World} {p : Nat} {l : List Bool} (h : AtW w0 p l w) (n : Nat) (hn : n < 18446744073709551615) (hl : l.length + 128 ≤ 1048576) :
    Calls Tryz.prog 148 #[.pointer (some ⟨p, 0, none⟩), .int .u64 (n : Int)] w fun e w' => e = .returned (.int .i64 0) ∧ AtW w0 p (l ++ cbits n) w' := by
  have H := Lib.hid h
  have hc2 : w.cell? ⟨p, 1, none⟩ = some (.int .i64 (l.length : Int)) := by
    obtain ⟨V, hv⟩ := h
    exact (blk_cell hv.blk 1).trans rfl
  clear h
  obtain ⟨m, hm⟩ : ∃ m, m = n + 1 := ⟨_, rfl⟩
  obtain ⟨s, hs⟩ : ∃ s, s = blen m := ⟨_, rfl⟩
  have hs64 : s ≤ 64 := by rw [hs]; exact blen_le (by omega)
  have hs1 : s ≠ 0 := by rw [hs, blen_pos (by omega)]; omega
  obtain ⟨s1, hs2⟩ : ∃ s1, s = s1 + 1 := ⟨s - 1, by omega⟩
  have hcb : cbits n = nbits 0 s1 ++ nbits m s := by unfold cbits; rw [nbits_zero, ← hm, ← hs, hs2, Nat.add_sub_cancel]
  have hmI : IntKind.u64.wrap (m : Int) = (m : Int) := IntWalk.u64_in _ (by omega)
  have hmI2 : (n : Int) + 1 = (m : Int) := by omega
  have hne : ¬ (n : Int) = 18446744073709551615 := by omega
  have hw1 : IntKind.i64.wrap (2 * (s : Int)) = 2 * (s : Int) := IntWalk.i64_in _ (by omega)
  have hw2 : IntKind.i64.wrap (2 * (s : Int) - 1) = 2 * (s : Int) - 1 := IntWalk.i64_in _ (by omega)
  have hw3 : IntKind.i64.wrap (1048576 - (l.length : Int)) = 1048576 - (l.length : Int) := IntWalk.i64_in _ (by omega)
  have hw4 : IntKind.i64.wrap ((s : Int) - 1) = (s1 : Int) := by rw [IntWalk.i64_in _ (by omega)]; omega
  have h3 : ¬ 1048576 - (l.length : Int) < 2 * (s : Int) - 1 := by omega
  have hml : m < 18446744073709551616 := by omega
  have HS := Lib.hid hs; have HC := Lib.hid hcb; have HML := Lib.hid hml; have HL := Lib.hid hl; have H64 := Lib.hid hs64; have HS2 := Lib.hid hs2
  clear hs hcb hm hml hl hn hs1 hs2 hs64
  go_enter Tryz.func148, Tryz.ntmps148
  go_wp2_with fail
  refine (len64_any _ m HML.out s HS.out).mono ?_
  rintro e w1 ⟨rfl, rfl⟩
  go_wp2_with fail
  refine (put_at H.out 0 s1 (by decide) (by have := H64.out; have := HS2.out; omega) (by have := H64.out; have := HS2.out; have := HL.out; omega) 0 s1 rfl rfl).mono ?_
  rintro e w2 ⟨rfl, a2⟩
  have A2 := Lib.hid a2
  clear a2
  go_wp2_with fail
  refine (put_at A2.out m s HML.out H64.out (by rw [List.length_append, nbits_len]; have := H64.out; have := HS2.out; have := HL.out; omega) m s rfl rfl).mono ?_
  rintro e w3 ⟨rfl, a3⟩
  have A3 := Lib.hid a3
  clear a3
  go_wp2
  go_ret
  refine ⟨rfl, ?_⟩
  rw [HC.out, ← List.append_assoc]
  exact A3.out
end Go.Proofs.YtfpikgkbccgchaaGreatDoor
