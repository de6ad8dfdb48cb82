/- A table, and slices that were handed out and are held. -/
import Derived.Test.YtihnbgokkhbjnaaWinL
import Derived.Test.YtihnbgokkhbjnaaWinP2
namespace Go.Proofs.Ytihnbgokkhbjnaa
set_option linter.unusedVariables false
set_option linter.unusedSimpArgs false
open Go.RowKit

/-- The table bt was made since w0, and reads as T; beside it slices are held. -/
def AtH (w0 : World) (bt : Nat) (T : Int → List (Int × Int)) (hs : List (Value × List (Int × Int))) (w : World) : Prop :=
  ∃ F, (RepT w bt T F ∧ Kp No w0 w ∧ (∀ k, F k → w0.heap.size ≤ k) ∧ w0.heap.size ≤ bt) ∧ ∀ h ∈ hs, Rd WK w h.1 h.2 ∧ ∀ g, h.1.ownBlock = some g → ¬ F g ∧ g < w.heap.size

theorem AtT.h {w0 w : World} {bt : Nat} {T : Int → List (Int × Int)} (h : AtT w0 bt T w) : AtH w0 bt T [] w := let ⟨F, a⟩ := h; ⟨F, a, by simp⟩
theorem AtH.t {w0 w : World} {bt : Nat} {T : Int → List (Int × Int)} {hs : List (Value × List (Int × Int))} (h : AtH w0 bt T hs w) : AtT w0 bt T w := let ⟨F, a, _⟩ := h; ⟨F, a⟩
theorem AtH.rd {w0 w : World} {bt : Nat} {T : Int → List (Int × Int)} {hs : List (Value × List (Int × Int))} (h : AtH w0 bt T hs w) {v : Value} {l : List (Int × Int)} (hm : (v, l) ∈ hs) : Rd WK w v l := let ⟨_, _, a⟩ := h; (a _ hm).1
theorem AtH.kpNo {w0 w w' : World} {bt : Nat} {T : Int → List (Int × Int)} {hs : List (Value × List (Int × Int))} (h : AtH w0 bt T hs w) (hk : Kp No w w') : AtH w0 bt T hs w' :=
  let ⟨F, ⟨h1, h2, h3, h4⟩, a⟩ := h
  ⟨F, ⟨h1.kpNo hk, h2.no hk, h3, h4⟩, fun x hx => ⟨(a x hx).1.kpNo hk, fun g hg => ⟨((a x hx).2 g hg).1, Nat.lt_of_lt_of_le ((a x hx).2 g hg).2 hk.size⟩⟩⟩
theorem AtH.to {w0 w w' : World} {bt : Nat} {T T' : Int → List (Int × Int)} {hs : List (Value × List (Int × Int))} {F : Nat → Prop} (h1 : RepT w bt T F) (h2 : Kp No w0 w) (h3 : ∀ k, F k → w0.heap.size ≤ k) (h4 : w0.heap.size ≤ bt)
    (a : ∀ h ∈ hs, Rd WK w h.1 h.2 ∧ ∀ g, h.1.ownBlock = some g → ¬ F g ∧ g < w.heap.size) (ht : TabTo bt T' F w w') : AtH w0 bt T' hs w' := by
  obtain ⟨F', b1, b2, b3⟩ := ht
  have := h2.size
  refine ⟨F', ⟨b1, h2.trans' b2 (fun k hk h => by have := h3 k h; omega), fun k hk => (b3 k hk).elim (h3 k) (fun h => by omega), h4⟩, fun x hx => ⟨(a x hx).1.kp b2 fun g hg => ((a x hx).2 g hg).1, fun g hg => ?_⟩⟩
  obtain ⟨n1, n2⟩ := (a x hx).2 g hg
  exact ⟨fun h => (b3 g h).elim n1 (fun h => by omega), Nat.lt_of_lt_of_le n2 b2.size⟩
theorem take_h {w0 w : World} {bt : Nat} {T : Int → List (Int × Int)} {hs : List (Value × List (Int × Int))} (h : AtH w0 bt T hs w) (hT : WFT T) (c a b r : Int) (hr : r = takeE (T c) a b) :
    Calls Try.prog 11 #[.pointer (some ⟨bt, 0, none⟩), .int .i64 c, .agg #[.int .i64 a, .int .i64 b]] w fun e w' => e = .returned (.int .i64 r) ∧ AtH w0 bt (takeT T c a b) hs w' := by
  subst hr
  obtain ⟨F, ⟨h1, h2, h3, h4⟩, ha⟩ := h
  exact (take_any h1 hT c a b).mono fun _ _ ⟨he, ht⟩ => ⟨he, AtH.to h1 h2 h3 h4 ha ht⟩
theorem drop_h {w0 w : World} {bt : Nat} {T : Int → List (Int × Int)} {hs : List (Value × List (Int × Int))} (h : AtH w0 bt T hs w) (hT : WFT T) (c : Int) (x : Int × Int) (r : Int) (hr : r = dropE (T c) x) :
    Calls Try.prog 24 #[.pointer (some ⟨bt, 0, none⟩), .int .i64 c, .agg #[.int .i64 x.1, .int .i64 x.2]] w fun e w' => e = .returned (.int .i64 r) ∧ AtH w0 bt (dropT T c x) hs w' := by
  subst hr
  obtain ⟨F, ⟨h1, h2, h3, h4⟩, ha⟩ := h
  exact (drop_any h1 hT c x).mono fun _ _ ⟨he, ht⟩ => ⟨he, AtH.to h1 h2 h3 h4 ha ht⟩
theorem is_h {w0 w : World} {bt : Nat} {T : Int → List (Int × Int)} {hs : List (Value × List (Int × Int))} (h : AtH w0 bt T hs w) (hT : WFT T) (c m : Int) (r : Bool) (hr : r = isF (T c) m) :
    Calls Try.prog 12 #[.pointer (some ⟨bt, 0, none⟩), .int .i64 c, .int .i64 m] w fun e w' => e = .returned (.bool r) ∧ AtH w0 bt T hs w' := by
  have h' := h
  subst hr
  obtain ⟨F, ⟨h1, h2, h3, h4⟩, ha⟩ := h
  exact (is_any h1 hT c m).mono fun _ _ ⟨he, ht⟩ => ⟨he, h'.kpNo ht⟩
/-- One more slice is held. -/
def RetH (w0 : World) (bt : Nat) (T : Int → List (Int × Int)) (hs : List (Value × List (Int × Int))) (l : List (Int × Int)) (en : Ending) (w' : World) : Prop := ∃ v', en = .returned v' ∧ AtH w0 bt T ((v', l) :: hs) w'
theorem RetNew.h {w0 w w' : World} {bt : Nat} {T : Int → List (Int × Int)} {hs : List (Value × List (Int × Int))} {l : List (Int × Int)} {en : Ending} (h : AtH w0 bt T hs w) (hr : RetNew WK 23 l w en w') : RetH w0 bt T hs l en w' := by
  obtain ⟨v, he, a, b, c⟩ := hr
  obtain ⟨F, ⟨h1, h2, h3, h4⟩, ha⟩ := h
  refine ⟨v, he, F, ⟨h1.kpNo b, h2.no b, h3, h4⟩, fun x hx => ?_⟩
  simp only [List.mem_cons] at hx
  rcases hx with rfl | hx
  · exact ⟨a.rd, fun g hg => ⟨fun hF => by have := h1.lt.2 g hF; have := c g hg; omega, a.lt hg⟩⟩
  · exact ⟨(ha x hx).1.kpNo b, fun g hg => ⟨((ha x hx).2 g hg).1, Nat.lt_of_lt_of_le ((ha x hx).2 g hg).2 b.size⟩⟩
theorem taken_h {w0 w : World} {bt : Nat} {T : Int → List (Int × Int)} {hs : List (Value × List (Int × Int))} (h : AtH w0 bt T hs w) (hT : WFT T) (c : Int) :
    Calls Try.prog 14 #[.pointer (some ⟨bt, 0, none⟩), .int .i64 c] w (RetH w0 bt T hs (T c)) := by
  have h' := h
  obtain ⟨F, ⟨h1, h2, h3, h4⟩, ha⟩ := h
  exact (taken_any h1 hT c).mono fun _ _ hr => hr.h h'
theorem free_h {w0 w : World} {bt : Nat} {T : Int → List (Int × Int)} {hs : List (Value × List (Int × Int))} (h : AtH w0 bt T hs w) (hT : WFT T) (c : Int) :
    Calls Try.prog 13 #[.pointer (some ⟨bt, 0, none⟩), .int .i64 c] w (RetH w0 bt T hs (freeL (T c))) := by
  have h' := h
  obtain ⟨F, ⟨h1, h2, h3, h4⟩, ha⟩ := h
  exact (free_any h1 hT c).mono fun _ _ hr => hr.h h'
theorem same_h {w0 w : World} {bt : Nat} {T : Int → List (Int × Int)} {hs : List (Value × List (Int × Int))} (h : AtH w0 bt T hs w) {a b : Value} {l m : List (Int × Int)} (ha : (a, l) ∈ hs) (hb : (b, m) ∈ hs) (hl : l.length ≤ 1000000) (hm : m.length ≤ 1000000) (r : Bool) (hr : r = decide (l = m)) :
    Calls Try.prog 18 #[a, b] w fun e w' => e = .returned (.bool r) ∧ AtH w0 bt T hs w' :=
  (same_any (h.rd ha) (h.rd hb) hl hm r hr).mono fun _ _ ⟨he, hk⟩ => ⟨he, h.kpNo hk⟩
theorem AtH.shape {w0 w : World} {bt : Nat} {T : Int → List (Int × Int)} {hs : List (Value × List (Int × Int))} (h : AtH w0 bt T hs w) {v : Value} {l : List (Int × Int)} (hm : (v, l) ∈ hs) : ∃ A cap, v = .slice A l.length cap := (h.rd hm).shape
end Go.Proofs.Ytihnbgokkhbjnaa
