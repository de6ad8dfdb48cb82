/- slices.BinarySearchFunc at windows. -/
import Derived.Test.YtihnbgokkhbjnaaWinA1
namespace Go.Proofs.Ytihnbgokkhbjnaa
set_option linter.unusedVariables false
set_option linter.unusedSimpArgs false
open Go.RowKit

theorem lit_gr (a b m : Int) (w : World) :
    Calls Try.prog 35 #[.agg #[.int .i64 a, .int .i64 b], .int .i64 m] w fun e w' => e = .returned (.int .i64 (if b ≤ m then -1 else 1)) ∧ Below w.heap.size w w' :=
  (lit_any a b m w).mono fun _ _ ⟨h1, h2⟩ => ⟨h1, h2 ▸ (Below.refl _ _).alloc (Nat.le_refl _) _⟩

theorem bcell {W w1 : World} (hb : Below W.heap.size W w1) : (∀ b o, b < W.heap.size → w1.cell? ⟨b, o, none⟩ = W.cell? ⟨b, o, none⟩) ∧ (∀ b o, b < W.heap.size → w1.frozen? ⟨b, o, none⟩ = W.frozen? ⟨b, o, none⟩) :=
  ⟨fun b o h => hb.cell (p := ⟨b, o, none⟩) h, fun b o h => hb.frozen (p := ⟨b, o, none⟩) h⟩

def place (l : List (Int × Int)) (m : Int) : Nat := (l.takeWhile (fun x => decide (x.2 ≤ m))).length

theorem place_eq (l : List (Int × Int)) (m : Int) (a : Nat) (hal : a ≤ l.length) (h1 : ∀ (k : Nat) (x : Int × Int), l[k]? = some x → k < a → x.2 ≤ m) (h2 : ∀ (k : Nat) (x : Int × Int), l[k]? = some x → a ≤ k → m < x.2) : place l m = a := by
  induction l generalizing a with
  | nil => simp at hal; simp [place, hal]
  | cons y l ih =>
    cases a with
    | zero => have := h2 0 y rfl (Nat.le_refl _); simp [place, Int.not_le.2 this]
    | succ a =>
      have h0 := h1 0 y rfl (by omega)
      have := ih a (by simp at hal; omega) (fun k x hk hka => h1 (k + 1) x (by simpa using hk) (by omega)) (fun k x hk hka => h2 (k + 1) x (by simpa using hk) (by omega))
      simp [place, h0] at this ⊢
      exact this

theorem bsearch (g o cap : Nat) (l : List (Int × Int)) (m : Int) (w : World) (hg : g < w.heap.size) (hlen : l.length ≤ 1000000000000) (hcap : l.length ≤ cap)
    (hc : ∀ i x, l[i]? = some x → w.cell? ⟨g, o + i * 2, none⟩ = some (.int .i64 x.1) ∧ w.cell? ⟨g, o + i * 2 + 1, none⟩ = some (.int .i64 x.2))
    (hs : ∀ (i j : Nat) (x y : Int × Int), l[i]? = some x → l[j]? = some y → i ≤ j → y.2 ≤ m → x.2 ≤ m) :
    Calls Try.prog 34 #[.slice (some ⟨g, o, none⟩) l.length cap, .int .i64 m, .func (.func 35) #[] #[]] w fun e w' => e = .returned (.tuple #[.int .i64 (place l m), .bool false]) ∧ Below w.heap.size w w' := by
  go_enter Try.func34, Try.ntmps34
  go_wp2
  go_loopw [9, 10] (fun i j wr => ∃ a b : Nat, i = .int .i64 a ∧ j = .int .i64 b ∧ a ≤ b ∧ b ≤ l.length ∧ (∀ k x, l[k]? = some x → k < a → x.2 ≤ m) ∧ (∀ k x, l[k]? = some x → b ≤ k → m < x.2) ∧ Below w.heap.size w wr) (fun i j _ => ((intOf j) - (intOf i)).toNat)
  case atStart => exact ⟨0, l.length, rfl, rfl, by omega, by omega, by intros; omega, by intro k x hk; have := (List.getElem?_eq_some_iff.1 hk).1; omega, Below.refl _ _⟩
  case round =>
    obtain ⟨a, b, rfl, rfl, hab, hbl, h1, h2, hB⟩ := hrel
    by_cases hlt : a < b
    · have hh : (a + b) / 2 < l.length := by omega
      obtain ⟨x, hx⟩ : ∃ x, l[(a + b) / 2]? = some x := ⟨_, List.getElem?_eq_getElem hh⟩
      obtain ⟨hc1, hc2⟩ := hc _ _ hx
      obtain ⟨hbc, _⟩ := bcell hB
      have hc1' := (hbc g (o + (a + b) / 2 * 2) hg).trans hc1
      have hc2' := (hbc g (o + (a + b) / 2 * 2 + 1) hg).trans hc2
      have H1 := Lib.hid h1
      have H2 := Lib.hid h2
      have HS := Lib.hid hs
      clear hc1 hc2 hbc hc hs h1 h2
      by_cases hm : x.2 ≤ m
      · go_wp2_with (go_at_call 35; refine (lit_gr _ _ _ _).mono ?_; rintro e w1 ⟨rfl, hb1⟩)
        go_roundw
        case rel =>
          refine ⟨(a + b) / 2 + 1, b, by go_num, rfl, by omega, hbl, ?_, H2.out, hB.trans (hb1.mono hB.size)⟩
          intro k y hk hka
          exact HS.out _ _ _ _ hk hx (by omega) hm
        case measure => simp [intOf]; omega
      · go_wp2_with (go_at_call 35; refine (lit_gr _ _ _ _).mono ?_; rintro e w1 ⟨rfl, hb1⟩)
        go_roundw
        case rel =>
          refine ⟨a, (a + b) / 2, rfl, by go_num, by omega, by omega, H1.out, ?_, hB.trans (hb1.mono hB.size)⟩
          intro k y hk hka
          exact Int.not_le.1 fun h => absurd (HS.out _ _ _ _ hx hk (by omega) h) (by omega)
        case measure => simp [intOf]; omega
    · obtain rfl : a = b := by omega
      have hp : Hid (place l m = a) := place_eq l m a hbl h1 h2
      by_cases ha : a < l.length
      · obtain ⟨x, hx⟩ : ∃ x, l[a]? = some x := ⟨_, List.getElem?_eq_getElem ha⟩
        obtain ⟨hc1, hc2⟩ := hc _ _ hx
        obtain ⟨hbc, _⟩ := bcell hB
        have hc1' := (hbc g (o + a * 2) hg).trans hc1
        have hc2' := (hbc g (o + a * 2 + 1) hg).trans hc2
        have hm : ¬ x.2 ≤ m := Int.not_le.2 (h2 _ _ hx (Nat.le_refl _))
        clear hc1 hc2 hbc hc hs h1 h2
        go_wp2_with (go_at_call 35; refine (lit_gr _ _ _ _).mono ?_; rintro e w1 ⟨rfl, hb1⟩)
        go_ret2
        exact ⟨by rw [hp.out]; simp [hm], hB.trans (hb1.mono hB.size)⟩
      · clear hc hs h1 h2
        go_wp2
        go_ret2
        exact ⟨by rw [hp.out]; simp [ha], hB⟩
end Go.Proofs.Ytihnbgokkhbjnaa
