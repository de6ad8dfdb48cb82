/- bits.Reader: NewReader, Left, one. -/
import Derived.Test.YtnejjjoedmefkaaBitC
namespace Go.Proofs.Ytnejjjoedmefkaa
set_option linter.unusedVariables false
set_option linter.unusedSimpArgs false
open Go.RowKit

theorem Kp.newer {a b c : World} {p : Nat} (h : Kp No a b) (k : Kp (fun k => k = p) b c) (hp : a.heap.size ≤ p) : Kp No a c := h.trans' k fun j hj e => by have e : j = p := e; exact absurd hj (by omega)
/-- A reader: p points to it, it reads the bytes B by the slice V, stands at bit n, and has the fault f; since w0 no other block was written. -/
structure AtR (w0 : World) (p : Nat) (V : Value) (B : List Nat) (n : Nat) (f : Int) (w : World) : Prop where
  blk : w.heap[p]? = some (.cells #[V, .int .i64 (n : Int), .int .i64 f] 110 (0, 0))
  rd : Rd BK w V B
  ne : ∀ g, V.ownBlock = some g → g ≠ p
  kp : Kp (fun k => k = p) w0 w
theorem AtR.kpNo {w0 w w' : World} {p : Nat} {V : Value} {B : List Nat} {n : Nat} {f : Int} (h : AtR w0 p V B n f w) (hk : Kp No w w') : AtR w0 p V B n f w' :=
  ⟨hk.blk h.blk (no_no _), h.rd.kpNo hk, h.ne, h.kp.no hk⟩
theorem AtR.here {w0 w : World} {p : Nat} {V : Value} {B : List Nat} {n : Nat} {f : Int} (h : AtR w0 p V B n f w) : AtR w p V B n f w := ⟨h.blk, h.rd, h.ne, Kp.refl _ _⟩
/-- What is written elsewhere leaves the reader as it is. -/
theorem AtR.far {S : Nat → Prop} {w0 w w' : World} {p : Nat} {V : Value} {B : List Nat} {n : Nat} {f : Int} (h : AtR w0 p V B n f w) (hk : Kp S w w') (hp : ¬ S p) (hv : ∀ g, V.ownBlock = some g → ¬ S g) : AtR w' p V B n f w' :=
  ⟨hk.blk h.blk hp, h.rd.kp hk hv, h.ne, Kp.refl _ _⟩
theorem AtR.old {w0 w : World} {p : Nat} {V : Value} {B : List Nat} {n : Nat} {f : Int} (h : AtR w0 p V B n f w) (hp : w0.heap.size ≤ p) : Kp No w0 w := h.kp.mono fun k hk e => by omega
/-- The reader's place and fault are set anew. -/
theorem AtR.set1 {w0 w : World} {p : Nat} {V : Value} {B : List Nat} {n m : Nat} {f : Int} (h : AtR w0 p V B n f w) : AtR w0 p V B m f (w.setCell ⟨p, 1, none⟩ (.int .i64 (m : Int))) := by
  have hk := (Kp.refl (fun k => k = p) w).setCell (p := ⟨p, 1, none⟩) (fun _ => rfl) (.int .i64 (m : Int))
  exact ⟨(blk_set h.blk 1 _).trans rfl, h.rd.kp hk h.ne, h.ne, h.kp.trans hk⟩
theorem AtR.set2 {w0 w : World} {p : Nat} {V : Value} {B : List Nat} {n : Nat} {f g : Int} (h : AtR w0 p V B n f w) : AtR w0 p V B n g (w.setCell ⟨p, 2, none⟩ (.int .i64 g)) := by
  have hk := (Kp.refl (fun k => k = p) w).setCell (p := ⟨p, 2, none⟩) (fun _ => rfl) (.int .i64 g)
  exact ⟨(blk_set h.blk 2 _).trans rfl, h.rd.kp hk h.ne, h.ne, h.kp.trans hk⟩
theorem AtR.cells {w0 w : World} {p : Nat} {V : Value} {B : List Nat} {n : Nat} {f : Int} (h : AtR w0 p V B n f w) :
    w.cell? ⟨p, 1, none⟩ = some (.int .i64 (n : Int)) ∧ w.cell? ⟨p, 2, none⟩ = some (.int .i64 f) ∧ (∀ i, w.frozen? ⟨p, i, none⟩ = false) ∧ ∃ A cap, w.cell? ⟨p, 0, none⟩ = some (.slice A B.length cap) ∧ Rd BK w (.slice A B.length cap) B := by
  obtain ⟨A, cap, rfl⟩ := h.rd.shape
  exact ⟨(blk_cell h.blk 1).trans rfl, (blk_cell h.blk 2).trans rfl, blk_free h.blk, A, cap, (blk_cell h.blk 0).trans rfl, h.rd⟩

set_option maxRecDepth 100000 in
theorem newR_any {w : World} {v : Value} {B : List Nat} (h : Rd BK w v B) (hB : B.length ≤ 1000000) : Calls Try.prog 45 #[v] w fun e w' => ∃ p V, e = .returned (.pointer (some ⟨p, 0, none⟩)) ∧ AtR w' p V B 0 0 w' ∧ Kp No w w' ∧ w.heap.size ≤ p ∧ p < w'.heap.size ∧ ∀ g, V.ownBlock = some g → w.heap.size ≤ g ∧ g < w'.heap.size := by
  obtain ⟨A, cap, rfl⟩ := h.shape
  have H := Lib.hid h
  clear h
  go_enter Try.func45, Try.ntmps45
  go_wp2_with (at_builtin; refine wpl_append elB rfl (.const (.slice none 0 0)) (.tmp 3) rfl rfl rfl (l := []) (m := B) ?c1 ?c2 ?c3 ?c4 ?c5)
  case c1 => exact Own.nil _ _ _
  case c2 => exact H.out
  case c3 => show 0 + B.length ≤ maxLen; unfold maxLen; omega
  case c4 => show (0 + B.length) * 1 ≤ _; omega
  case c5 =>
    intro v' w' k1 k2 k3
    obtain ⟨A2, cap2, rfl⟩ := k1.rd.shape
    have K1 := Lib.hid k1.rd; have K2 := Lib.hid k2; have K3 := Lib.hid k3
    have hlt := Lib.hid (fun g hg => k1.lt (g := g) hg)
    clear k1 k2 k3
    go_wp2
    go_ret
    have hk : Kp No w w' := K2.out.mono fun k _ h => by simp [Value.ownBlock] at h
    have hs : (w'.alloc (.cells #[.slice A2 B.length cap2, .int .i64 0, .int .i64 0] 110)).heap.size = w'.heap.size + 1 := by simp
    refine ⟨w'.heap.size, .slice A2 B.length cap2, rfl, ⟨blk_new w' _, by simpa using K1.out.alloc _, fun g hg => ?_, Kp.refl _ _⟩, hk.alloc _, hk.size, by rw [hs]; omega, fun g hg => ⟨?_, ?_⟩⟩
    · have := hlt.out g hg
      omega
    · rcases K3.out g hg with e | e
      · simp [Value.ownBlock] at e
      · exact e
    · have := hlt.out g hg
      rw [hs]; omega

set_option maxRecDepth 100000 in
theorem left_any {w0 w : World} {p : Nat} {V : Value} {B : List Nat} {n : Nat} {f : Int} (h : AtR w0 p V B n f w) (hB : B.length ≤ 1000000) (hn : n ≤ 8 * B.length) :
    Calls Try.prog 48 #[.pointer (some ⟨p, 0, none⟩)] w fun e w' => e = .returned (.int .i64 (8 * (B.length : Int) - n)) ∧ Kp No w w' := by
  obtain ⟨h1, h2, h3, A, cap, h4, h5⟩ := h.cells
  have hw1 : IntKind.i64.wrap (8 * (B.length : Int)) = 8 * (B.length : Int) := IntWalk.i64_in _ (by omega)
  have hw2 : IntKind.i64.wrap (8 * (B.length : Int) - (n : Int)) = 8 * (B.length : Int) - (n : Int) := IntWalk.i64_in _ (by omega)
  clear h h5 hB hn
  go_enter Try.func48, Try.ntmps48
  go_wp2
  go_quiet (fail)
  go_wp2
  go_ret
  exact ⟨rfl, (Kp.refl _ _).drewN _⟩
end Go.Proofs.Ytnejjjoedmefkaa
