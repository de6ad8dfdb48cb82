/- slices.Clone, Index at windows. -/
import Derived.Test.YtihnbgokkhbjnaaWinA2
namespace Go.Proofs.Ytihnbgokkhbjnaa
set_option linter.unusedVariables false
set_option linter.unusedSimpArgs false
open Go.RowKit

/-- A window's cells. -/
def WK : Kd (Int × Int) := { sz := 2, enc := fun x => [.int .i64 x.1, .int .i64 x.2], len := fun _ => rfl, one := by intro a v hv; simp at hv; rcases hv with rfl | rfl <;> rfl, pos := by decide }
theorem elW : ElT Try.prog 30 23 WK 16 := ElT.of (z := .agg #[.int .i64 0, .int .i64 0]) (by kernel_rfl) (by kernel_rfl) rfl

theorem Rd.winAt {w : World} {l : List (Int × Int)} {g o n cap : Nat} (h : Rd WK w (.slice (some ⟨g, o, none⟩) n cap) l) {i : Nat} {x : Int × Int} (hx : l[i]? = some x) :
    w.cell? ⟨g, o + i * 2, none⟩ = some (.int .i64 x.1) ∧ w.cell? ⟨g, o + i * 2 + 1, none⟩ = some (.int .i64 x.2) :=
  ⟨h.at rfl hx (j := 0) rfl, h.at rfl hx (j := 1) rfl⟩

theorem eqlW (x y : Int × Int) (b : Bool) (hb : b = decide (x = y)) (w : World) : (binOp .eql 23 (.agg #[.int .i64 x.1, .int .i64 x.2]) (.agg #[.int .i64 y.1, .int .i64 y.2])).run Try.prog w = .ok (.bool b) w := by
  subst hb
  have h : decide (x = y) = (decide (x.1 = y.1) && decide (x.2 = y.2)) := by
    rw [← Bool.decide_and]; exact decide_eq_decide.2 Prod.ext_iff
  rw [h]
  by_cases h1 : x.1 = y.1 <;> by_cases h2 : x.2 = y.2 <;> simp [binOp, Op.equal, Op.maxDepth, go_sem, h1, h2]

/-- A slice of its own in new memory is handed back. -/
def RetNew {α : Type} (K : Kd α) (e : TypeId) (l : List α) (w : World) (en : Ending) (w' : World) : Prop :=
  ∃ v', en = .returned v' ∧ Own K e w' v' l ∧ Kp No w w' ∧ ∀ g, v'.ownBlock = some g → w.heap.size ≤ g

theorem clone_any (v : Value) (l : List (Int × Int)) (w : World) (h : Rd WK w v l) (hl : l.length ≤ 1000000) :
    Calls Try.prog 28 #[v] w (RetNew WK 23 l w) := by
  have qe := fun (w : World) (a : Option Addr) (n c : Nat) => Lib.run_eql_slice_nil (P := Try.prog) w 30 23 a n c 0 0 Try.underlying30
  rcases h with ⟨rfl, rfl⟩ | ⟨g, o, cap, rfl, h1, h2, h3⟩
  · go_enter Try.func28, Try.ntmps28
    go_wp2
    go_ret
    exact ⟨_, rfl, Own.nil _ _ _, Kp.refl _ _, fun g hg => by simp [Value.ownBlock] at hg⟩
  · have hrd : Rd WK w (.slice (some ⟨g, o, none⟩) l.length cap) l := .inr ⟨g, o, cap, rfl, h1, h2, h3⟩
    have H := Lib.hid hrd
    clear h3 hrd
    go_enter Try.func28, Try.ntmps28
    go_wp2_with (at_builtin; refine wpl_append elW rfl (.tmp 5) (.tmp 6) rfl rfl rfl (l := []) (m := l) ?c1 ?c2 ?c3 ?c4 ?c5)
    case c1 => exact Own.lit WK 23 w [] [] rfl (by simp)
    case c2 => exact H.out.alloc _
    case c3 => unfold maxLen; simp; omega
    case c4 => simp; omega
    case c5 =>
      intro v' w' h1 h2 h3
      have K1 := Lib.hid h1; have K2 := Lib.hid h2; have K3 := Lib.hid h3; clear h1 h2 h3
      go_wp2
      go_ret
      refine ⟨_, rfl, by simpa using K1.out, ((Kp.refl No w).alloc _).trans' K2.out ?_, ?_⟩
      · intro k hk h; simp [Value.ownBlock] at h; omega
      · intro g hg; rcases K3.out g hg with h | h
        · simp [Value.ownBlock] at h; omega
        · first | omega | (simp at h; omega)
end Go.Proofs.Ytihnbgokkhbjnaa
