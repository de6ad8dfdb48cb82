/- The methods of the table of windows: New, place, Is, Taken. -/
import Derived.Test.YtihnbgokkhbjnaaWinT
namespace Go.Proofs.Ytihnbgokkhbjnaa
set_option linter.unusedVariables false
set_option linter.unusedSimpArgs false
open Go.RowKit

theorem Rd.winAt0 {w : World} {l : List (Int × Int)} {g n cap : Nat} (h : Rd WK w (.slice (some ⟨g, 0, none⟩) n cap) l) {i : Nat} {x : Int × Int} (hx : l[i]? = some x) :
    w.cell? ⟨g, i * 2, none⟩ = some (.int .i64 x.1) ∧ w.cell? ⟨g, i * 2 + 1, none⟩ = some (.int .i64 x.2) := by
  have := h.winAt hx
  rwa [Nat.zero_add] at this

/-- Of a cell: windows that may be, in order, none of which meets another. -/
structure WFL (l : List (Int × Int)) : Prop where
  rt : ∀ x ∈ l, 0 ≤ x.1 ∧ x.1 < x.2 ∧ x.2 ≤ 1048576
  ord : l.Pairwise (fun a b => a.2 ≤ b.1)
  len : l.length ≤ 4096
theorem WFL.sor {l : List (Int × Int)} (h : WFL l) : Sor l := by
  intro i j x y hx hy hij
  rcases Nat.lt_or_ge i j with hlt | hge
  · have hi := (List.getElem?_eq_some_iff.1 hx).1
    have hj := (List.getElem?_eq_some_iff.1 hy).1
    have h1 := List.pairwise_iff_getElem.1 h.ord i j hi hj hlt
    have h2 := h.rt y (List.mem_of_getElem? hy)
    have e1 := (List.getElem?_eq_some_iff.1 hx).2
    have e2 := (List.getElem?_eq_some_iff.1 hy).2
    rw [e1, e2] at h1
    omega
  · obtain rfl : i = j := by omega
    rw [hx] at hy
    injection hy with hy
    subst hy
    exact Int.le_refl _
def WFT (T : Int → List (Int × Int)) : Prop := ∀ c, WFL (T c)

theorem place_any {w : World} {bt : Nat} {T : Int → List (Int × Int)} {F : Nat → Prop} (h : RepT w bt T F) (hT : WFT T) (c m : Int) :
    Calls Try.prog 26 #[.pointer (some ⟨bt, 0, none⟩), .int .i64 c, .int .i64 m] w fun e w' => e = .returned (.int .i64 (place (T c) m)) ∧ Kp No w w' := by
  obtain ⟨bm, v, h1, h2, h3, _, _⟩ := h.at c
  have h2 := h2 0
  change Sem.run _ _ w = .ok v w at h2
  have H := Lib.hid h3.rd
  have HT := Lib.hid hT
  clear h3 hT h
  go_enter Try.func26, Try.ntmps26
  go_wp2_with (go_at_call 34; refine (bsearch_any v (T c) m w H.out (Nat.le_trans (HT.out c).len (by decide)) (HT.out c).sor).mono ?_; rintro e w' ⟨rfl, hk⟩)
  go_ret
  exact ⟨rfl, hk⟩

def isF (l : List (Int × Int)) (m : Int) : Bool := decide (0 ≤ m) && decide (m < 1048576) && (match l[place l m]? with | none => true | some x => decide (m < x.1))

theorem place_le (l : List (Int × Int)) (m : Int) : place l m ≤ l.length := by
  unfold place; exact List.Sublist.length_le (List.takeWhile_sublist _)

theorem is_any {w : World} {bt : Nat} {T : Int → List (Int × Int)} {F : Nat → Prop} (h : RepT w bt T F) (hT : WFT T) (c m : Int) :
    Calls Try.prog 12 #[.pointer (some ⟨bt, 0, none⟩), .int .i64 c, .int .i64 m] w fun e w' => e = .returned (.bool (isF (T c) m)) ∧ Kp No w w' := by
  obtain ⟨bm, v, h1, h2, h3, _, _⟩ := h.at c
  have h2 := h2 0
  change Sem.run _ _ w = .ok v w at h2
  have HR := Lib.hid h
  have H := Lib.hid h3.rd
  have HT := Lib.hid hT
  obtain ⟨A, cap, rfl⟩ := h3.rd.shape
  clear h3 hT h
  by_cases m0 : m < 0
  · have hf : isF (T c) m = false := by simp [isF]; omega
    have HF := Lib.hid hf; clear hf
    go_enter Try.func12, Try.ntmps12
    go_wp2
    go_ret
    exact ⟨by rw [HF.out]; rfl, Kp.refl _ _⟩
  by_cases m1 : 1048576 ≤ m
  · have hf : isF (T c) m = false := by simp [isF]; omega
    have HF := Lib.hid hf; clear hf
    go_enter Try.func12, Try.ntmps12
    go_wp2
    go_ret
    exact ⟨by rw [HF.out]; rfl, Kp.refl _ _⟩
  have hle := place_le (T c) m
  by_cases hp : place (T c) m = (T c).length
  · have hf : isF (T c) m = true := by
      have : (T c)[place (T c) m]? = none := by rw [hp]; simp
      simp only [isF, this]; simp; omega
    have HF := Lib.hid hf; clear hf
    have hp' : ((place (T c) m : Int) == ((T c).length : Int)) = true := by simp [hp]
    clear hp
    go_enter Try.func12, Try.ntmps12
    go_wp2_with (go_at_call 26; refine (place_any HR.out HT.out c m).mono ?_; rintro e w' ⟨rfl, hk⟩)
    go_ret
    exact ⟨by rw [HF.out]; rfl, hk⟩
  · obtain ⟨x, hx⟩ : ∃ x, (T c)[place (T c) m]? = some x := ⟨_, List.getElem?_eq_getElem (by omega)⟩
    have hf : isF (T c) m = decide (m < x.1) := by simp only [isF, hx]; simp; omega
    have HF := Lib.hid hf; clear hf
    have hp' : ((place (T c) m : Int) == ((T c).length : Int)) = false := by simp; omega
    have hlt : place (T c) m < (T c).length := by omega
    have HX := Lib.hid hx
    rcases H.out with ⟨hv, he⟩ | ⟨g, o, cap', hv, _⟩
    · rw [he] at hlt; simp at hlt
    simp only [Value.slice.injEq] at hv
    obtain ⟨rfl, _, rfl⟩ := hv
    clear hp hx
    go_enter Try.func12, Try.ntmps12
    go_wp2_with (go_at_call 26; refine (place_any HR.out HT.out c m).mono ?_; rintro e w' ⟨rfl, hk⟩; obtain ⟨hc1, hc2⟩ := (H.out.kpNo hk).winAt HX.out)
    go_ret
    exact ⟨by rw [HF.out]; rfl, hk⟩

theorem taken_any {w : World} {bt : Nat} {T : Int → List (Int × Int)} {F : Nat → Prop} (h : RepT w bt T F) (hT : WFT T) (c : Int) :
    Calls Try.prog 14 #[.pointer (some ⟨bt, 0, none⟩), .int .i64 c] w (RetNew WK 23 (T c) w) := by
  obtain ⟨bm, v, h1, h2, h3, _, _⟩ := h.at c
  have h2 := h2 0
  change Sem.run _ _ w = .ok v w at h2
  have H := Lib.hid h3.rd
  have HT := Lib.hid hT
  clear h3 hT h
  go_enter Try.func14, Try.ntmps14
  go_wp2_with (go_at_call 28; refine (clone_any v (T c) w H.out (Nat.le_trans (HT.out c).len (by decide))).mono ?_; rintro e w' ⟨v', rfl, k1, k2, k3⟩; (have K1 := Lib.hid k1); (have K2 := Lib.hid k2); (have K3 := Lib.hid k3); clear k1 k2 k3)
  go_ret
  exact ⟨_, rfl, K1.out, K2.out, K3.out⟩

theorem new_any (w : World) : Calls Try.prog 10 #[] w fun e w' => ∃ bt F, e = .returned (.pointer (some ⟨bt, 0, none⟩)) ∧ RepT w' bt (fun _ => []) F ∧ Kp No w w' ∧ w.heap.size ≤ bt ∧ ∀ k, F k → w.heap.size ≤ k := by
  have hmm := @run_makeMap Try.prog
  go_enter Try.func10, Try.ntmps10
  go_wp2
  go_ret
  refine ⟨w.heap.size + 1, fun b => b = w.heap.size, rfl, ⟨w.heap.size, [], ?_, ?_, by simp, by simp, by simp, by simp⟩, ((Kp.refl _ _).alloc _).alloc _, by omega, by intro k hk; omega⟩
  · have := blk_new (w.alloc (.map #[] 0)) (.cells #[.map (some w.heap.size)] 53)
    simpa using this
  · exact (MapI.made w).kp ((Kp.refl No _).alloc _) (no_no _)
end Go.Proofs.Ytihnbgokkhbjnaa
