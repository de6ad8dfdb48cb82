/- Acts upon a table: few, does, and what many acts leave. -/
import Derived.Test.YtihnbgokkhbjnaaWinU
import Derived.Test.YtihnbgokkhbjnaaArg
import Derived.WalkLawsBesides
namespace Go.Proofs.Ytihnbgokkhbjnaa
set_option linter.unusedVariables false
set_option linter.unusedSimpArgs false
open Go.RowKit

/-- An act: kind, cell, window. -/
structure WAct where
  k : Int
  c : Int
  x : Int × Int
def AK : Kd WAct := { sz := 4, enc := fun a => [.int .u8 a.k, .int .i64 a.c, .int .i64 a.x.1, .int .i64 a.x.2], len := fun _ => rfl, one := by intro a v hv; simp at hv; rcases hv with rfl | rfl | rfl | rfl <;> rfl, pos := by decide }
theorem elA : ElT Try.prog 33 36 AK 32 := ElT.of (z := .agg #[.int .u8 0, .int .i64 0, .int .i64 0, .int .i64 0]) (by kernel_rfl) (by kernel_rfl) rfl

theorem few_any {w : World} {A : Option Addr} {n cap : Nat} (hn : n ≤ cap) (hc : cap ≤ maxLen) : Calls Try.prog 15 #[.slice A n cap] w fun e w' => e = .returned (.slice A (min 200 n) cap) ∧ w' = w := by
  unfold maxLen at hc
  by_cases h : 200 < n
  · have hm : min 200 n = 200 := by omega
    have hs := run_slice_hiA elA A n cap 200 (by omega) 200 (by omega)
    rw [hm]
    go_enter Try.func15, Try.ntmps15
    go_wp2
    all_goals (go_ret; exact ⟨rfl, rfl⟩)
  · have hm : min 200 n = n := by omega
    have hs := run_slice_hiA elA A n cap n (by omega) n (by omega)
    have hI : ¬ (200 : Int) < n := by omega
    rw [hm]
    go_enter Try.func15, Try.ntmps15
    go_wp2
    all_goals (go_ret; exact ⟨rfl, rfl⟩)

def actT (T : Int → List (Int × Int)) (a : WAct) : Int → List (Int × Int) :=
  if a.k % 3 = 0 then takeT T a.c a.x.1 a.x.2 else if a.k % 3 = 1 then dropT T a.c a.x else fun c => (T c).drop (place (T c) a.x.1)
def actE (T : Int → List (Int × Int)) (a : WAct) : Int := if a.k % 3 = 0 then takeE (T a.c) a.x.1 a.x.2 else if a.k % 3 = 1 then dropE (T a.c) a.x else 0
def playT (l : List WAct) : Int → List (Int × Int) := l.foldl actT (fun _ => [])

theorem WFT.act {T : Int → List (Int × Int)} (h : WFT T) (a : WAct) : WFT (actT T a) := by
  unfold actT
  split
  · exact h.take _ _ _
  · split
    · exact h.dropT _ _
    · exact h.forget' _
theorem playT_wf (l : List WAct) : WFT (playT l) := by
  have : ∀ (l : List WAct) (T : Int → List (Int × Int)), WFT T → WFT (l.foldl actT T) := by
    intro l
    induction l with
    | nil => intro T h; exact h
    | cons a l ih => intro T h; exact ih _ (h.act a)
  exact this l _ WFT.nil
theorem playT_snoc (l : List WAct) (k : Nat) (a : WAct) (h : l[k]? = some a) : playT (l.take (k + 1)) = actT (playT (l.take k)) a := by
  rw [List.take_add_one, h]
  simp [playT]

theorem TabTo.pre {bt : Nat} {T' : Int → List (Int × Int)} {F : Nat → Prop} {w w1 w' : World} (h : TabTo bt T' F w1 w') (hk : Kp No w w1) : TabTo bt T' F w w' := by
  obtain ⟨F', a, b, c⟩ := h
  have := hk.size
  exact ⟨F', a, (hk.mono fun _ _ h => h.elim).trans b, fun k h => (c k h).imp id fun h => by omega⟩
theorem take_r {w : World} {bt : Nat} {T : Int → List (Int × Int)} {F : Nat → Prop} (h : RepT w bt T F) (hT : WFT T) (c a b r : Int) (hr : r = takeE (T c) a b) :
    Calls Try.prog 11 #[.pointer (some ⟨bt, 0, none⟩), .int .i64 c, .agg #[.int .i64 a, .int .i64 b]] w fun e w' => e = .returned (.int .i64 r) ∧ TabTo bt (takeT T c a b) F w w' := by
  subst hr; exact take_any h hT c a b
theorem drop_r {w : World} {bt : Nat} {T : Int → List (Int × Int)} {F : Nat → Prop} (h : RepT w bt T F) (hT : WFT T) (c : Int) (x : Int × Int) (r : Int) (hr : r = dropE (T c) x) :
    Calls Try.prog 24 #[.pointer (some ⟨bt, 0, none⟩), .int .i64 c, .agg #[.int .i64 x.1, .int .i64 x.2]] w fun e w' => e = .returned (.int .i64 r) ∧ TabTo bt (dropT T c x) F w w' := by
  subst hr; exact drop_any h hT c x

theorem does_tab {w : World} {bt : Nat} {T : Int → List (Int × Int)} {F : Nat → Prop} (h : RepT w bt T F) (hT : WFT T) (a : WAct) (hk : 0 ≤ a.k) (r : Int) (hr : r = actE T a) :
    Calls Try.prog 16 #[.pointer (some ⟨bt, 0, none⟩), .agg #[.int .u8 a.k, .int .i64 a.c, .int .i64 a.x.1, .int .i64 a.x.2]] w fun e w' => e = .returned (.int .i64 r) ∧ TabTo bt (actT T a) F w w' := by
  have HT := Lib.hid hT
  have h1 := h.kpNo ((Kp.refl _ _).alloc (.cells #[.int .u8 a.k, .int .i64 a.c, .int .i64 a.x.1, .int .i64 a.x.2] 36))
  have H := Lib.hid h1
  have KA : Hid (Kp No w (w.alloc (.cells #[.int .u8 a.k, .int .i64 a.c, .int .i64 a.x.1, .int .i64 a.x.2] 36))) := (Kp.refl _ _).alloc _
  obtain ⟨k, c, x⟩ := a
  simp only at hk H KA
  clear h h1 hT
  by_cases k0 : k % 3 = 0
  · have hr' : r = takeE (T c) x.1 x.2 := by rw [hr]; simp [actE, k0]
    have HR := Lib.hid hr'
    have ht : actT T ⟨k, c, x⟩ = takeT T c x.1 x.2 := by simp [actT, k0]
    rw [ht]
    clear hr hr' ht
    go_enter Try.func16, Try.ntmps16
    go_wp2_with (go_at_call 11; refine (take_r H.out HT.out c x.1 x.2 r HR.out).mono ?_; rintro e w' ⟨rfl, a⟩; have A := Lib.hid a; clear a)
    go_ret
    exact ⟨rfl, A.out.pre KA.out⟩
  · by_cases k1 : k % 3 = 1
    · have hr' : r = dropE (T c) x := by rw [hr]; simp [actE, k1]
      have HR := Lib.hid hr'
      have ht : actT T ⟨k, c, x⟩ = dropT T c x := by simp [actT, k1]
      rw [ht]
      clear hr hr' ht
      go_enter Try.func16, Try.ntmps16
      go_wp2_with (go_at_call 24; refine (drop_r H.out HT.out c x r HR.out).mono ?_; rintro e w' ⟨rfl, a⟩; have A := Lib.hid a; clear a)
      go_ret
      exact ⟨rfl, A.out.pre KA.out⟩
    · have hr' : r = 0 := by rw [hr]; simp [actE, k0, k1]
      have ht : actT T ⟨k, c, x⟩ = fun c => (T c).drop (place (T c) x.1) := by simp [actT, k0, k1]
      rw [ht, hr']
      clear hr hr' ht
      go_enter Try.func16, Try.ntmps16
      go_wp2_with (go_at_call 17; refine (forget_any H.out HT.out x.1).mono ?_; rintro e w' ⟨rfl, a⟩; have A := Lib.hid a; clear a)
      go_ret
      exact ⟨rfl, A.out.pre KA.out⟩

theorem does_at {w0 w : World} {bt : Nat} {T : Int → List (Int × Int)} (h : AtT w0 bt T w) (hT : WFT T) (a : WAct) (hk : 0 ≤ a.k) (r : Int) (hr : r = actE T a) :
    Calls Try.prog 16 #[.pointer (some ⟨bt, 0, none⟩), .agg #[.int .u8 a.k, .int .i64 a.c, .int .i64 a.x.1, .int .i64 a.x.2]] w fun e w' => e = .returned (.int .i64 r) ∧ AtT w0 bt (actT T a) w' := by
  obtain ⟨F, h1, h2, h3, h4⟩ := h
  exact (does_tab h1 hT a hk r hr).mono fun _ _ ⟨he, ht⟩ => ⟨he, AtT.to h1 h2 h3 h4 ht⟩
end Go.Proofs.Ytihnbgokkhbjnaa
