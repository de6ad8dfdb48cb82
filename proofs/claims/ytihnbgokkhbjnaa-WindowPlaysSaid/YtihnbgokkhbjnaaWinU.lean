/- The examples of the document (shown). -/
import Derived.Test.YtihnbgokkhbjnaaWinS
namespace Go.Proofs.Ytihnbgokkhbjnaa
set_option linter.unusedVariables false
set_option linter.unusedSimpArgs false
open Go.RowKit

/-- The table bt was made since w0, and reads as T. -/
def AtT (w0 : World) (bt : Nat) (T : Int → List (Int × Int)) (w : World) : Prop := ∃ F, RepT w bt T F ∧ Kp No w0 w ∧ (∀ k, F k → w0.heap.size ≤ k) ∧ w0.heap.size ≤ bt

theorem AtT.kpNo {w0 w w' : World} {bt : Nat} {T : Int → List (Int × Int)} (h : AtT w0 bt T w) (hk : Kp No w w') : AtT w0 bt T w' :=
  let ⟨F, h1, h2, h3, h4⟩ := h
  ⟨F, h1.kpNo hk, h2.no hk, h3, h4⟩
theorem AtT.kp {w0 w : World} {bt : Nat} {T : Int → List (Int × Int)} (h : AtT w0 bt T w) : Kp No w0 w := let ⟨_, _, h2, _⟩ := h; h2
theorem AtT.to {w0 w w' : World} {bt : Nat} {T T' : Int → List (Int × Int)} {F : Nat → Prop} (h1 : RepT w bt T F) (h2 : Kp No w0 w) (h3 : ∀ k, F k → w0.heap.size ≤ k) (h4 : w0.heap.size ≤ bt) (ht : TabTo bt T' F w w') : AtT w0 bt T' w' := by
  obtain ⟨F', a, b, c⟩ := ht
  have := h2.size
  exact ⟨F', a, h2.trans' b (fun k hk h => by have := h3 k h; omega), fun k hk => (c k hk).elim (h3 k) (fun h => by omega), h4⟩

theorem new_at (w : World) : Calls Try.prog 10 #[] w fun e w' => ∃ bt, e = .returned (.pointer (some ⟨bt, 0, none⟩)) ∧ AtT w bt (fun _ => []) w' :=
  (new_any w).mono fun _ _ ⟨bt, F, h1, h2, h3, h4, h5⟩ => ⟨bt, h1, F, h2, h3, h5, h4⟩
theorem take_at {w0 w : World} {bt : Nat} {T : Int → List (Int × Int)} (h : AtT w0 bt T w) (hT : WFT T) (c a b r : Int) (hr : r = takeE (T c) a b) :
    Calls Try.prog 11 #[.pointer (some ⟨bt, 0, none⟩), .int .i64 c, .agg #[.int .i64 a, .int .i64 b]] w fun e w' => e = .returned (.int .i64 r) ∧ AtT w0 bt (takeT T c a b) w' := by
  subst hr
  obtain ⟨F, h1, h2, h3, h4⟩ := h
  exact (take_any h1 hT c a b).mono fun _ _ ⟨he, ht⟩ => ⟨he, AtT.to h1 h2 h3 h4 ht⟩
theorem drop_at {w0 w : World} {bt : Nat} {T : Int → List (Int × Int)} (h : AtT w0 bt T w) (hT : WFT T) (c : Int) (x : Int × Int) (r : Int) (hr : r = dropE (T c) x) :
    Calls Try.prog 24 #[.pointer (some ⟨bt, 0, none⟩), .int .i64 c, .agg #[.int .i64 x.1, .int .i64 x.2]] w fun e w' => e = .returned (.int .i64 r) ∧ AtT w0 bt (dropT T c x) w' := by
  subst hr
  obtain ⟨F, h1, h2, h3, h4⟩ := h
  exact (drop_any h1 hT c x).mono fun _ _ ⟨he, ht⟩ => ⟨he, AtT.to h1 h2 h3 h4 ht⟩
theorem forget_at {w0 w : World} {bt : Nat} {T : Int → List (Int × Int)} (h : AtT w0 bt T w) (hT : WFT T) (m : Int) :
    Calls Try.prog 17 #[.pointer (some ⟨bt, 0, none⟩), .int .i64 m] w fun e w' => e = .returned (.tuple #[]) ∧ AtT w0 bt (fun c => (T c).drop (place (T c) m)) w' := by
  obtain ⟨F, h1, h2, h3, h4⟩ := h
  exact (forget_any h1 hT m).mono fun _ _ ⟨he, ht⟩ => ⟨he, AtT.to h1 h2 h3 h4 ht⟩
theorem is_at {w0 w : World} {bt : Nat} {T : Int → List (Int × Int)} (h : AtT w0 bt T w) (hT : WFT T) (c m : Int) (r : Bool) (hr : r = isF (T c) m) :
    Calls Try.prog 12 #[.pointer (some ⟨bt, 0, none⟩), .int .i64 c, .int .i64 m] w fun e w' => e = .returned (.bool r) ∧ AtT w0 bt T w' ∧ Kp No w w' := by
  subst hr
  have h' := h
  obtain ⟨F, h1, h2, h3, h4⟩ := h
  exact (is_any h1 hT c m).mono fun _ _ ⟨he, ht⟩ => ⟨he, h'.kpNo ht, ht⟩

/-- What Taken and Free hand back. -/
def RetAt (w0 : World) (bt : Nat) (T : Int → List (Int × Int)) (l : List (Int × Int)) (w : World) (en : Ending) (w' : World) : Prop :=
  ∃ v', en = .returned v' ∧ Own WK 23 w' v' l ∧ Kp No w w' ∧ (∀ g, v'.ownBlock = some g → w.heap.size ≤ g) ∧ AtT w0 bt T w'
theorem free_at {w0 w : World} {bt : Nat} {T : Int → List (Int × Int)} (h : AtT w0 bt T w) (hT : WFT T) (c : Int) :
    Calls Try.prog 13 #[.pointer (some ⟨bt, 0, none⟩), .int .i64 c] w (RetAt w0 bt T (freeL (T c)) w) := by
  have h' := h
  obtain ⟨F, h1, h2, h3, h4⟩ := h
  exact (free_any h1 hT c).mono fun _ _ ⟨v, a, b, c, d⟩ => ⟨v, a, b, c, d, h'.kpNo c⟩
theorem taken_at {w0 w : World} {bt : Nat} {T : Int → List (Int × Int)} (h : AtT w0 bt T w) (hT : WFT T) (c : Int) :
    Calls Try.prog 14 #[.pointer (some ⟨bt, 0, none⟩), .int .i64 c] w (RetAt w0 bt T (T c) w) := by
  have h' := h
  obtain ⟨F, h1, h2, h3, h4⟩ := h
  exact (taken_any h1 hT c).mono fun _ _ ⟨v, a, b, c, d⟩ => ⟨v, a, b, c, d, h'.kpNo c⟩

def TS1 : Int → List (Int × Int) := takeT (fun _ => []) 5 3 7
def TS2 : Int → List (Int × Int) := takeT TS1 5 6 9
def TS3 : Int → List (Int × Int) := takeT TS2 5 7 9
theorem ts_all : (0 : Int) = takeE [] 3 7 ∧ (3 : Int) = takeE (TS1 5) 6 9 ∧ (0 : Int) = takeE (TS2 5) 7 9 ∧ TS3 5 = [(3, 7), (7, 9)] ∧ freeL (TS3 5) = [(0, 3), (9, 1048576)] := by decide

theorem two_rd {w : World} (a b c d : Int) (g : Nat) (hg : g = w.heap.size) : Rd WK (w.alloc (.cells #[.int .i64 a, .int .i64 b, .int .i64 c, .int .i64 d] 23)) (.slice (some ⟨g, 0, none⟩) 2 2) [(a, b), (c, d)] :=
  Rd.litAt WK 23 w _ _ rfl (by unfold maxLen; simp) g 2 hg rfl

set_option maxRecDepth 100000 in
theorem shown_any (w : World) : Calls Try.prog 9 #[] w fun e w' => e = .returned (.bool true) ∧ Kp No w w' := by
  obtain ⟨t1, t2, t3, t4, t5⟩ := ts_all
  have H1 := Lib.hid t1; have H2 := Lib.hid t2; have H3 := Lib.hid t3; have H4 := Lib.hid t4; have H5 := Lib.hid t5
  clear t1 t2 t3 t4 t5
  go_enter Try.func9, Try.ntmps9
  go_wp2_with fail
  refine (new_at _).mono ?_
  rintro e w1 ⟨bt, rfl, r1⟩
  have R1 := Lib.hid r1; clear r1
  go_wp2_with fail
  refine (take_at R1.out WFT.nil 5 3 7 0 H1.out).mono ?_
  rintro e w2 ⟨rfl, r2⟩
  have R2 : Hid (AtT w bt TS1 w2) := r2
  clear r2
  go_wp2_with fail
  refine (take_at R2.out (WFT.nil.take _ _ _) 5 6 9 3 H2.out).mono ?_
  rintro e w3 ⟨rfl, r3⟩
  have R3 : Hid (AtT w bt TS2 w3) := r3
  clear r3
  go_wp2_with fail
  refine (take_at R3.out ((WFT.nil.take _ _ _).take _ _ _) 5 7 9 0 H3.out).mono ?_
  rintro e w4 ⟨rfl, r4⟩
  have R4 : Hid (AtT w bt TS3 w4) := r4
  have hwf : Hid (WFT TS3) := ((WFT.nil.take _ _ _).take _ _ _).take _ _ _
  clear r4
  go_wp2_with fail
  refine (taken_at R4.out hwf.out 5).mono ?_
  rintro e w5 ⟨v, rfl, a1, a2, a3, a4⟩
  have A1 : Hid (Rd WK w5 v [(3, 7), (7, 9)]) := by have := a1.rd; rw [H4.out] at this; exact this
  have A4 := Lib.hid a4
  clear a1 a2 a3 a4
  go_wp2_with fail
  refine (same_any (A1.out.alloc _) (two_rd 3 7 7 9 _ rfl) (by decide) (by decide) true (by decide)).mono ?_
  rintro e w6 ⟨rfl, k6⟩
  have B1 : Hid (AtT w bt TS3 w6) := ((A4.out.kpNo ((Kp.refl _ _).alloc _)).kpNo k6)
  clear k6
  go_wp2_with fail
  refine (free_at B1.out hwf.out 5).mono ?_
  rintro e w7 ⟨v2, rfl, a1, a2, a3, a4⟩
  have C1 : Hid (Rd WK w7 v2 [(0, 3), (9, 1048576)]) := by have := a1.rd; rw [H5.out] at this; exact this
  have C4 := Lib.hid a4
  clear a1 a2 a3 a4
  go_wp2_with fail
  refine (same_any (C1.out.alloc _) (two_rd 0 3 9 1048576 _ rfl) (by decide) (by decide) true (by decide)).mono ?_
  rintro e w8 ⟨rfl, k8⟩
  have D1 := Lib.hid (C4.out.kp.no (((Kp.refl _ _).alloc _).no k8))
  clear k8
  go_wp2
  go_ret
  exact ⟨rfl, D1.out⟩
end Go.Proofs.Ytihnbgokkhbjnaa
