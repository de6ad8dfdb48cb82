/- Plain laws of lists of windows: what Take, Drop and Forget keep. No program. -/
import Derived.Test.YtihnbgokkhbjnaaWinG
namespace Go.Proofs.Ytihnbgokkhbjnaa
set_option linter.unusedVariables false
set_option linter.unusedSimpArgs false

theorem place_take (l : List (Int × Int)) (m : Int) : l.take (place l m) = l.takeWhile (fun x => decide (x.2 ≤ m)) := by
  unfold place
  conv => lhs; arg 2; rw [← List.takeWhile_append_dropWhile (p := fun x : Int × Int => decide (x.2 ≤ m)) (l := l)]
  exact List.take_left
theorem place_drop (l : List (Int × Int)) (m : Int) : l.drop (place l m) = l.dropWhile (fun x => decide (x.2 ≤ m)) := by
  unfold place
  conv => lhs; arg 2; rw [← List.takeWhile_append_dropWhile (p := fun x : Int × Int => decide (x.2 ≤ m)) (l := l)]
  exact List.drop_left
theorem place_before {l : List (Int × Int)} {m : Int} {x : Int × Int} (h : x ∈ l.take (place l m)) : x.2 ≤ m := by
  rw [place_take] at h
  induction l with
  | nil => simp at h
  | cons y l ih =>
    rw [List.takeWhile_cons] at h
    split at h
    · rename_i hy
      simp only [List.mem_cons] at h
      rcases h with rfl | h
      · simpa using hy
      · exact ih h
    · simp at h
theorem dropWhile_head {l : List (Int × Int)} {p : Int × Int → Bool} {x : Int × Int} {r : List (Int × Int)} (h : l.dropWhile p = x :: r) : p x = false := by
  induction l with
  | nil => simp at h
  | cons y l ih =>
    rw [List.dropWhile_cons] at h
    split at h
    · exact ih h
    · rename_i hy
      simp only [List.cons.injEq] at h
      rw [← h.1]; simpa using hy
/-- In order, all that stand from 'place' on end behind the moment. -/
theorem place_behind {l : List (Int × Int)} (hw : WFL l) {m : Int} {x : Int × Int} (h : x ∈ l.drop (place l m)) : m < x.2 := by
  have hp : (l.drop (place l m)).Pairwise (fun a b => a.2 ≤ b.1) := hw.ord.sublist (List.drop_sublist _ _)
  cases hd : l.drop (place l m) with
  | nil => rw [hd] at h; simp at h
  | cons y r =>
    have hy : m < y.2 := by
      rw [place_drop] at hd
      have := dropWhile_head hd
      simp at this; omega
    rw [hd] at h hp
    simp only [List.mem_cons] at h
    rcases h with rfl | h
    · exact hy
    · have h1 := (List.pairwise_cons.1 hp).1 x h
      have h2 := hw.rt x (List.mem_of_mem_drop (hd ▸ List.mem_cons_of_mem y h : x ∈ l.drop (place l m)))
      omega

theorem WFL.ins {l : List (Int × Int)} (hw : WFL l) {a b : Int} (h : takeE l a b = 0) : WFL (insL l (place l a) (a, b)) := by
  unfold takeE at h
  split at h
  · simp at h
  rename_i hr
  have hr := Decidable.not_not.1 hr
  have key : ∀ c : Bool, (if c = true then (3 : Int) else if 4096 ≤ l.length then 4 else 0) = 0 → c = false ∧ ¬ 4096 ≤ l.length := by
    intro c
    cases c
    · by_cases hl : 4096 ≤ l.length <;> simp [hl]
    · simp
  obtain ⟨hx, hl⟩ := key _ h
  have hb : ∀ x ∈ l.drop (place l a), b ≤ x.1 := by
    intro x hxm
    have hp : (l.drop (place l a)).Pairwise (fun a b => a.2 ≤ b.1) := hw.ord.sublist (List.drop_sublist _ _)
    cases hd : l.drop (place l a) with
    | nil => rw [hd] at hxm; simp at hxm
    | cons y r =>
      have hy0 : l[place l a]? = some y := by
        have := congrArg List.head? hd
        simpa [List.head?_drop] using this
      rw [hy0] at hx
      have hy1 : b ≤ y.1 := by simpa using hx
      have hy2 := hw.rt y (List.mem_of_getElem? hy0)
      rw [hd] at hxm hp
      simp only [List.mem_cons] at hxm
      rcases hxm with rfl | hxm
      · exact hy1
      · have := (List.pairwise_cons.1 hp).1 x hxm; omega
  refine ⟨?_, ?_, ?_⟩
  · intro x hxm
    simp only [insL, List.mem_append, List.mem_singleton] at hxm
    rcases hxm with (hxm | rfl) | hxm
    · exact hw.rt x (List.mem_of_mem_take hxm)
    · exact hr
    · exact hw.rt x (List.mem_of_mem_drop hxm)
  · unfold insL
    rw [List.append_assoc, List.pairwise_append]
    refine ⟨hw.ord.sublist (List.take_sublist _ _), ?_, ?_⟩
    · rw [List.singleton_append, List.pairwise_cons]
      exact ⟨hb, hw.ord.sublist (List.drop_sublist _ _)⟩
    · intro x hxm y hym
      have h1 := place_before hxm
      simp only [List.singleton_append, List.mem_cons] at hym
      rcases hym with rfl | hym
      · exact h1
      · have := hb y hym; omega
  · have := place_le l a
    simp [insL, Nat.min_eq_left this]; omega

theorem WFL.nil : WFL [] := ⟨by simp, by simp, by simp⟩
theorem WFT.nil : WFT (fun _ => []) := fun _ => WFL.nil
theorem WFT.set {T : Int → List (Int × Int)} (h : WFT T) {c : Int} {l : List (Int × Int)} (hl : WFL l) : WFT (setT T c l) := by
  intro c'
  unfold setT
  split
  · exact hl
  · exact h c'
theorem WFT.take {T : Int → List (Int × Int)} (h : WFT T) (c a b : Int) : WFT (takeT T c a b) := by
  unfold takeT
  split
  · rename_i he; exact h.set ((h c).ins he)
  · exact h
theorem WFT.dropT {T : Int → List (Int × Int)} (h : WFT T) (c : Int) (x : Int × Int) : WFT (dropT T c x) := by
  unfold Go.Proofs.Ytihnbgokkhbjnaa.dropT
  split
  · refine h.set ?_
    have hw := h c
    exact ⟨fun y hy => hw.rt y (List.mem_of_mem_eraseIdx hy), hw.ord.sublist (List.eraseIdx_sublist _ _), Nat.le_trans (List.Sublist.length_le (List.eraseIdx_sublist _ _)) hw.len⟩
  · exact h
theorem WFT.forget' {T : Int → List (Int × Int)} (h : WFT T) (m : Int) : WFT (fun c => (T c).drop (place (T c) m)) := fun c => (h c).drop _
end Go.Proofs.Ytihnbgokkhbjnaa
