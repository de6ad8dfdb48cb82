/- WindowEither: plain laws. -/
import Derived.Test.YtihnbgokkhbjnaaWinSumsW
namespace Go.Proofs.Ytihnbgokkhbjnaa
set_option linter.unusedVariables false
set_option linter.unusedSimpArgs false
open Go.RowKit

def inB (m : Int) (l : List (Int × Int)) : Bool := l.any fun x => decide (x.1 ≤ m) && decide (m < x.2)
theorem inB_append (m : Int) (a b : List (Int × Int)) : inB m (a ++ b) = (inB m a || inB m b) := by simp [inB]
theorem inB_one (m : Int) (x : Int × Int) : inB m [x] = (decide (x.1 ≤ m) && decide (m < x.2)) := by simp [inB]
theorem inB_snoc (m : Int) (l : List (Int × Int)) (k : Nat) (x : Int × Int) (h : l[k]? = some x) : inB m (l.take (k + 1)) = (inB m (l.take k) || (decide (x.1 ≤ m) && decide (m < x.2))) := by
  rw [List.take_add_one, h, Option.toList_some, inB_append, inB_one]

theorem fpre_in {l : List (Int × Int)} (hw : WFL l) (m : Int) (hm : 0 ≤ m) : ∀ k, k ≤ l.length → (m < (fpre (l.take k)).2 → inB m (fpre (l.take k)).1 = !inB m (l.take k)) ∧ ((fpre (l.take k)).2 ≤ m → inB m (fpre (l.take k)).1 = false ∧ inB m (l.take k) = false) := by
  intro k
  induction k with
  | zero => intro _; simp [fpre, inB]; omega
  | succ k ih =>
    intro hk
    obtain ⟨x, hx⟩ : ∃ x, l[k]? = some x := ⟨_, List.getElem?_eq_getElem (by omega)⟩
    obtain ⟨i1, i2⟩ := ih (by omega)
    obtain ⟨_, j2, j3, j4⟩ := fpre_sum hw k (by omega)
    have hr := hw.rt x (List.mem_of_getElem? hx)
    have h4 := j4 x hx
    rw [fpre_snoc l k x hx, inB_snoc m l k x hx]
    generalize fpre (l.take k) = s at *
    generalize inB m (l.take k) = q at *
    obtain ⟨s1, s2⟩ := s
    simp only [fstep] at *
    refine ⟨fun h => ?_, fun h => ?_⟩
    · by_cases c : m < s2
      · have c1 : ¬ x.1 ≤ m := by omega
        split
        · rw [inB_append, inB_one, i1 c]; simp [c1]; omega
        · rw [i1 c]; simp [c1]
      · obtain ⟨e1, e2⟩ := i2 (by omega)
        subst e2
        split
        · rw [inB_append, inB_one, e1]
          by_cases c1 : x.1 ≤ m
          · simp [c1, h]; try omega
          · simp [c1]; try omega
        · have c1 : x.1 ≤ m := by omega
          rw [e1]; simp [c1, h]
    · obtain ⟨e1, e2⟩ := i2 (by omega)
      subst e2
      split
      · rw [inB_append, inB_one, e1]; simp; omega
      · rw [e1]; simp; omega

/-- A moment is in a free window just if it is in none that is taken. -/
theorem free_in {l : List (Int × Int)} (hw : WFL l) (m : Int) (hm : 0 ≤ m) (hm2 : m < 1048576) : inB m (freeL l) = !inB m l := by
  obtain ⟨h1, h2⟩ := fpre_in hw m hm l.length (Nat.le_refl _)
  rw [List.take_length] at *
  unfold freeL
  generalize fpre l = s at *
  split
  · rw [inB_append, inB_one]
    by_cases c : m < s.2
    · rw [h1 c]; simp; omega
    · obtain ⟨e1, e2⟩ := h2 (by omega)
      rw [e1, e2]; simp; omega
  · exact h1 (by omega)

theorem is_in {l : List (Int × Int)} (hw : WFL l) (m : Int) (hm : 0 ≤ m) (hm2 : m < 1048576) : isF l m = !inB m l := by
  have hb : inB m (l.take (place l m)) = false := by
    simp only [inB, List.any_eq_false]
    intro x hx
    have := place_before hx
    simp; omega
  unfold isF
  simp only [hm, hm2, decide_true, Bool.true_and]
  cases hx : l[place l m]? with
  | none =>
    have h1 := place_le l m
    have h2 := List.getElem?_eq_none_iff.1 hx
    have h3 : place l m = l.length := by omega
    rw [h3, List.take_length] at hb
    simp [hb]
  | some x =>
    have hlt := (List.getElem?_eq_some_iff.1 hx).1
    have hd : l.drop (place l m) = x :: l.drop (place l m + 1) := by
      rw [List.drop_eq_getElem_cons hlt]; congr 1; exact (List.getElem?_eq_some_iff.1 hx).2
    have hxm : m < x.2 := place_behind hw (by rw [hd]; exact List.mem_cons_self)
    have hp : (x :: l.drop (place l m + 1)).Pairwise (fun a b => a.2 ≤ b.1) := hd ▸ hw.ord.sublist (List.drop_sublist _ _)
    have hrest : inB m (l.drop (place l m + 1)) = false := by
      simp only [inB, List.any_eq_false]
      intro y hy
      have := (List.pairwise_cons.1 hp).1 y hy
      simp; omega
    have : inB m l = inB m (l.take (place l m) ++ ([x] ++ l.drop (place l m + 1))) := by
      rw [List.singleton_append, ← hd, List.take_append_drop]
    rw [this, inB_append, inB_append, inB_one, hb, hrest]
    by_cases c : x.1 ≤ m
    · simp [c, hxm]
    · simp [c]; omega

/-- Windows in order. -/
def Ordd (l : List (Int × Int)) : Prop := (∀ x ∈ l, 0 ≤ x.1 ∧ x.1 < x.2 ∧ x.2 ≤ 1048576) ∧ l.Pairwise (fun a b => a.2 ≤ b.1)
theorem WFL.ordd {l : List (Int × Int)} (hw : WFL l) : Ordd l := ⟨hw.rt, hw.ord⟩
theorem fpre_ord {l : List (Int × Int)} (hw : WFL l) : ∀ k, k ≤ l.length → (fpre (l.take k)).1.Pairwise (fun a b => a.2 ≤ b.1) ∧ ∀ x ∈ (fpre (l.take k)).1, x.2 ≤ (fpre (l.take k)).2 := by
  intro k
  induction k with
  | zero => intro _; simp [fpre]
  | succ k ih =>
    intro hk
    obtain ⟨x, hx⟩ : ∃ x, l[k]? = some x := ⟨_, List.getElem?_eq_getElem (by omega)⟩
    obtain ⟨i1, i2⟩ := ih (by omega)
    obtain ⟨_, j2, j3, j4⟩ := fpre_sum hw k (by omega)
    have hr := hw.rt x (List.mem_of_getElem? hx)
    have h4 := j4 x hx
    rw [fpre_snoc l k x hx]
    generalize fpre (l.take k) = s at *
    obtain ⟨s1, s2⟩ := s
    simp only [fstep] at *
    split
    · refine ⟨List.pairwise_append.2 ⟨i1, List.pairwise_singleton _ _, fun a ha b hb => ?_⟩, fun y hy => ?_⟩
      · simp at hb; subst hb; exact i2 a ha
      · simp only [List.mem_append, List.mem_singleton] at hy
        rcases hy with hy | rfl
        · have := i2 y hy; omega
        · simp only; omega
    · exact ⟨i1, fun y hy => by have := i2 y hy; omega⟩
theorem free_ord {l : List (Int × Int)} (hw : WFL l) : Ordd (freeL l) := by
  refine ⟨freeL_wf hw, ?_⟩
  obtain ⟨h1, h2⟩ := fpre_ord hw l.length (Nat.le_refl _)
  rw [List.take_length] at *
  unfold freeL
  split
  · refine List.pairwise_append.2 ⟨h1, List.pairwise_singleton _ _, fun a ha b hb => ?_⟩
    simp at hb; subst hb; exact h2 a ha
  · exact h1
end Go.Proofs.Ytihnbgokkhbjnaa
