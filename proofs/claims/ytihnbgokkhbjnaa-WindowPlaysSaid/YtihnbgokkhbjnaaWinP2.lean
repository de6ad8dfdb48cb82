/- Plain laws: a window is taken, asked for, and let go. -/
import Derived.Test.YtihnbgokkhbjnaaWinP
namespace Go.Proofs.Ytihnbgokkhbjnaa
set_option linter.unusedVariables false
set_option linter.unusedSimpArgs false

/-- What Take found: nothing before ends behind a, all behind begins from b on. -/
theorem take_ok {l : List (Int × Int)} (hw : WFL l) {a b : Int} (h : takeE l a b = 0) :
    (0 ≤ a ∧ a < b ∧ b ≤ 1048576) ∧ (∀ x ∈ l.take (place l a), x.2 ≤ a) ∧ (∀ x ∈ l.drop (place l a), b ≤ x.1 ∧ x.1 < x.2) := by
  have hi := hw.ins h
  unfold takeE at h
  split at h
  · simp at h
  rename_i hr
  have hr := Decidable.not_not.1 hr
  refine ⟨hr, fun x hx => place_before hx, fun x hx => ?_⟩
  have ho := hi.ord
  unfold insL at ho
  rw [List.append_assoc, List.pairwise_append] at ho
  have h1 := ho.2.1
  rw [List.singleton_append, List.pairwise_cons] at h1
  exact ⟨h1.1 x hx, (hw.rt x (List.mem_of_mem_drop hx)).2.1⟩

theorem ins_at {l : List (Int × Int)} {p : Nat} {x : Int × Int} (hp : p ≤ l.length) : (insL l p x)[p]? = some x := by
  unfold insL
  rw [List.append_assoc, List.getElem?_append_right (by simp; omega)]
  simp [Nat.min_eq_left hp]

theorem ins_place {l : List (Int × Int)} (hw : WFL l) {a b : Int} (h : takeE l a b = 0) (m : Int) (h1 : a ≤ m) (h2 : m < b) : place (insL l (place l a) (a, b)) m = place l a := by
  obtain ⟨hr, hb, hd⟩ := take_ok hw h
  have hp := place_le l a
  refine place_eq _ m _ (by simp [insL]; omega) ?_ ?_
  · intro k x hk hka
    unfold insL at hk
    rw [List.append_assoc, List.getElem?_append_left (by simp; omega)] at hk
    have := hb x (List.mem_of_getElem? hk)
    omega
  · intro k x hk hka
    unfold insL at hk
    rw [List.append_assoc, List.getElem?_append_right (by simp; omega)] at hk
    have hm := List.mem_of_getElem? hk
    simp only [List.singleton_append, List.mem_cons] at hm
    rcases hm with rfl | hm
    · exact h2
    · have := hd x hm; omega

theorem ins_is {l : List (Int × Int)} (hw : WFL l) {a b : Int} (h : takeE l a b = 0) (m : Int) (h1 : a ≤ m) (h2 : m < b) : isF (insL l (place l a) (a, b)) m = false := by
  unfold isF
  rw [ins_place hw h m h1 h2, ins_at (place_le l a)]
  simp; omega

theorem ins_there {l : List (Int × Int)} (hw : WFL l) {a b : Int} (h : takeE l a b = 0) : takeE (insL l (place l a) (a, b)) a b = 3 := by
  obtain ⟨hr, hb, hd⟩ := take_ok hw h
  unfold takeE
  rw [if_neg (not_not_intro hr), ins_place hw h a (Int.le_refl _) hr.2.1, ins_at (place_le l a)]
  simp [hr.2.1]

theorem ins_not {l : List (Int × Int)} (hw : WFL l) {a b : Int} (h : takeE l a b = 0) : (a, b) ∉ l := by
  obtain ⟨hr, hb, hd⟩ := take_ok hw h
  intro hm
  rw [← List.take_append_drop (place l a) l, List.mem_append] at hm
  rcases hm with hm | hm
  · have := hb _ hm; simp at this; omega
  · have := hd _ hm; simp at this; omega

theorem ins_idx {l : List (Int × Int)} (hw : WFL l) {a b : Int} (h : takeE l a b = 0) : (insL l (place l a) (a, b)).idxOf (a, b) = place l a := by
  have hn : (a, b) ∉ l.take (place l a) := fun hm => ins_not hw h (List.mem_of_mem_take hm)
  unfold insL
  rw [List.append_assoc, List.idxOf_append, if_neg hn]
  simp [Nat.min_eq_left (place_le l a)]

theorem ins_erase {l : List (Int × Int)} (hw : WFL l) {a b : Int} (h : takeE l a b = 0) : (insL l (place l a) (a, b)).eraseIdx ((insL l (place l a) (a, b)).idxOf (a, b)) = l := by
  rw [ins_idx hw h, List.eraseIdx_eq_take_drop_succ]
  unfold insL
  have hp := place_le l a
  rw [List.append_assoc, List.take_append_of_le_length (by simp; omega), List.take_take, Nat.min_self, List.drop_append]
  have : (l.take (place l a)).length = place l a := by simp; omega
  rw [List.drop_eq_nil_of_le (by omega), this, Nat.add_sub_cancel_left]
  simp

theorem back_drop {T : Int → List (Int × Int)} {c : Int} (hw : WFL (T c)) {a b : Int} (h : takeE (T c) a b = 0) : dropT (setT T c (insL (T c) (place (T c) a) (a, b))) c (a, b) = T := by
  have hm : (a, b) ∈ setT T c (insL (T c) (place (T c) a) (a, b)) c := by simp [setT, insL]
  unfold dropT
  rw [if_pos hm]
  funext c'
  by_cases hc : c' = c
  · subst hc
    simp only [setT, if_true]
    exact ins_erase hw h
  · simp [setT, hc]
end Go.Proofs.Ytihnbgokkhbjnaa
