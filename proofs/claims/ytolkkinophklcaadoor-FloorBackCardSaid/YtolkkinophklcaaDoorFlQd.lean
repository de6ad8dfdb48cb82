/- Floors, plain: docks, counted. No function of the program. -/
import Derived.Test.YtolkkinophklcaaDoorFlA
namespace Go.Proofs.YtolkkinophklcaaDoor
set_option linter.unusedVariables false
set_option linter.unusedSimpArgs false
open Go.RowKit

def cntR (s : ByteArray) (k r : Nat) : Nat := ((List.range k).filter fun i => kdS s i == 3 && bt s i == 48 + r).length
theorem cntR_succ (s : ByteArray) (k r : Nat) : cntR s (k + 1) r = cntR s k r + if kdS s k = 3 ∧ bt s k = 48 + r then 1 else 0 := by
  unfold cntR; rw [List.range_succ, List.filter_append, List.length_append]
  congr 1
  by_cases h : kdS s k = 3 ∧ bt s k = 48 + r
  · rw [if_pos h]; simp [h.1, h.2]
  · rw [if_neg h]; simp; intro h1 h2; exact h ⟨h1, h2⟩
theorem sum_set : ∀ (a : List Nat) (r x : Nat), a[r]? = some x → (a.set r (x + 1)).sum = a.sum + 1 := by
  intro a
  induction a with
  | nil => intro r x h; simp at h
  | cons y ys ih =>
    intro r x h
    rcases r with _ | r
    · simp at h; subst h; simp; omega
    · rw [List.getElem?_cons_succ] at h
      rw [List.set_cons_succ, List.sum_cons, List.sum_cons, ih r x h]; omega
theorem sum_ones : ∀ (a : List Nat) (d : Nat), d ≤ a.length → (∀ r : Nat, r < d → a[r]? = some 1) → a.sum = d → ∀ r x : Nat, d ≤ r → a[r]? = some x → x = 0 := by
  intro a
  induction a with
  | nil => intro d _ _ _ r x _ h; simp at h
  | cons y ys ih =>
    intro d hd h1 hs r x hr hx
    rw [List.sum_cons] at hs
    rcases d with _ | d
    · rcases r with _ | r
      · simp at hx; omega
      · rw [List.getElem?_cons_succ] at hx
        exact ih 0 (by omega) (fun r hr => by omega) (by omega) r x (by omega) hx
    · have hy := h1 0 (by omega)
      simp at hy; subst hy
      rcases r with _ | r
      · omega
      · rw [List.getElem?_cons_succ] at hx
        exact ih d (by simp at hd; omega) (fun r hr => by have := h1 (r + 1) (by omega); rwa [List.getElem?_cons_succ] at this) (by omega) r x (by omega) hx
structure MnI (s : ByteArray) (k : Nat) (a : List Nat) (d : Nat) : Prop where
  len : a.length = 8
  at_ : ∀ r x : Nat, a[r]? = some x → x = cntR s k r
  sum : d = a.sum
section
variable {s : ByteArray} {k d : Nat} {a : List Nat}
theorem MnI.start (s : ByteArray) : MnI s 0 (List.replicate 8 0) 0 := ⟨rfl, fun r x h => by
    rw [List.getElem?_replicate] at h
    split at h
    · simp at h; rw [← h]; rfl
    · simp at h, rfl⟩
theorem MnI.skip (h : MnI s k a d) (hk : kdS s k ≠ 3) : MnI s (k + 1) a d := ⟨h.len, fun r x e => by rw [cntR_succ, if_neg (fun h => hk h.1)]; exact h.at_ r x e, h.sum⟩
theorem MnI.take (h : MnI s k a d) {r x : Nat} (hk : kdS s k = 3) (hr : bt s k = 48 + r) (h0 : a[r]? = some x) : MnI s (k + 1) (a.set r (x + 1)) (d + 1) := by
  have hrl : r < a.length := (List.getElem?_eq_some_iff.1 h0).1
  refine ⟨by rw [List.length_set]; exact h.len, fun r' y e => ?_, by rw [sum_set a r x h0, ← h.sum]⟩
  rw [cntR_succ]
  by_cases hrr : r = r'
  · subst hrr
    rw [List.getElem?_set_self hrl] at e
    simp at e; subst e
    rw [if_pos ⟨hk, hr⟩, ← h.at_ r x h0]
  · rw [List.getElem?_set_ne hrr] at e
    rw [if_neg (by omega)]; exact h.at_ r' y e
theorem cnt_one {s : ByteArray} {n r i j : Nat} (h : cntR s n r = 1) (hi : i < n ∧ kdS s i = 3 ∧ bt s i = 48 + r) (hj : j < n ∧ kdS s j = 3 ∧ bt s j = 48 + r) : i = j := by
  unfold cntR at h
  obtain ⟨y, hy⟩ := List.length_eq_one_iff.1 h
  have h1 : i ∈ (List.range n).filter fun i => kdS s i == 3 && bt s i == 48 + r := List.mem_filter.2 ⟨List.mem_range.2 hi.1, by simp [hi.2.1, hi.2.2]⟩
  have h2 : j ∈ (List.range n).filter fun i => kdS s i == 3 && bt s i == 48 + r := List.mem_filter.2 ⟨List.mem_range.2 hj.1, by simp [hj.2.1, hj.2.2]⟩
  rw [hy] at h1 h2
  simp at h1 h2
  rw [h1, h2]
theorem cnt_pos {s : ByteArray} {n r : Nat} (h : cntR s n r ≠ 0) : ∃ i, i < n ∧ kdS s i = 3 ∧ bt s i = 48 + r := by
  unfold cntR at h
  obtain ⟨y, hy⟩ := List.exists_mem_of_length_pos (Nat.pos_of_ne_zero h)
  obtain ⟨h1, h2⟩ := List.mem_filter.1 hy
  simp at h1 h2
  exact ⟨y, h1, h2.1, h2.2⟩
theorem cnt_ne {s : ByteArray} {n r i : Nat} (hi : i < n ∧ kdS s i = 3 ∧ bt s i = 48 + r) : cntR s n r ≠ 0 := by
  intro h
  unfold cntR at h
  have h1 : i ∈ (List.range n).filter fun i => kdS s i == 3 && bt s i == 48 + r := List.mem_filter.2 ⟨List.mem_range.2 hi.1, by simp [hi.2.1, hi.2.2]⟩
  rw [List.eq_nil_of_length_eq_zero h] at h1
  simp at h1
theorem dockAt_some {s : ByteArray} {r i : Nat} (h : dockAt s r = some i) : i < s.size ∧ kdS s i = 3 ∧ bt s i = 48 + r := by
  unfold dockAt at h
  have h1 := List.find?_some h
  have h2 := List.mem_of_find?_eq_some h
  simp at h1 h2
  exact ⟨h2, h1.1, h1.2⟩
theorem dockAt_ex {s : ByteArray} {r i : Nat} (hi : i < s.size ∧ kdS s i = 3 ∧ bt s i = 48 + r) : ∃ x, dockAt s r = some x := by
  cases h : dockAt s r with
  | some x => exact ⟨x, rfl⟩
  | none =>
    unfold dockAt at h
    rw [List.find?_eq_none] at h
    have := h i (by simpa using hi.1)
    simp [hi.2.1, hi.2.2] at this
theorem cntR_len (s : ByteArray) (k r : Nat) (h : ∀ i, i < k → ¬ (kdS s i = 3 ∧ bt s i = 48 + r)) : cntR s k r = 0 := by
  apply Classical.byContradiction
  intro hc
  obtain ⟨i, h1, h2, h3⟩ := cnt_pos hc
  exact h i h1 ⟨h2, h3⟩
theorem MnI.cnt (h : MnI s k a d) : d = (docksP s k).length ∨ True := .inr trivial
theorem MnI.iff (h : MnI s s.size a d) : (∃ ds, DocksL s ds) ↔ 1 ≤ d ∧ d ≤ 8 ∧ ∀ r : Nat, r < d → a[r]? = some 1 := by
  constructor
  · rintro ⟨ds, hd⟩
    have hl := hd.len
    have hne : 1 ≤ ds.length := by rcases hh : ds with _ | _; exact absurd hh hd.ne; simp
    have hcnt : ∀ r x : Nat, a[r]? = some x → x = if r < ds.length then 1 else 0 := by
      intro r x hx
      rw [h.at_ r x hx]
      split
      · rename_i hr
        obtain ⟨i1, i2, i3⟩ := hd.at_ r _ (List.getElem?_eq_getElem hr)
        have hne := cnt_ne ⟨i1, i2, i3⟩
        rcases Nat.lt_or_ge 1 (cntR s s.size r) with h2 | h2
        · exfalso
          unfold cntR at h2
          have hnd : ((List.range s.size).filter fun i => kdS s i == 3 && bt s i == 48 + r).Nodup := List.Nodup.sublist List.filter_sublist List.nodup_range
          have hall : ∀ y ∈ (List.range s.size).filter fun i => kdS s i == 3 && bt s i == 48 + r, y = ds[r] := by
            intro y hy
            obtain ⟨h3, h4⟩ := List.mem_filter.1 hy
            simp at h3 h4
            have := hd.all y h3 h4.1
            rw [h4.2, Nat.add_sub_cancel_left, List.getElem?_eq_getElem hr] at this
            simpa using this.symm
          generalize (List.range s.size).filter (fun i => kdS s i == 3 && bt s i == 48 + r) = L at h2 hnd hall
          rcases L with _ | ⟨p, _ | ⟨q, L⟩⟩
          · simp at h2
          · simp at h2
          · have e1 := hall p (by simp)
            have e2 := hall q (by simp)
            rw [List.nodup_cons] at hnd
            exact hnd.1 (by simp [e1, e2])
        · omega
      · rename_i hr
        apply Classical.byContradiction
        intro hc
        obtain ⟨i, h1, h2, h3⟩ := cnt_pos hc
        have := hd.all i h1 h2
        rw [h3, Nat.add_sub_cancel_left] at this
        exact hr (List.getElem?_eq_some_iff.1 this).1
    have ha : a = List.replicate ds.length 1 ++ List.replicate (8 - ds.length) 0 := by
      apply List.ext_getElem?
      intro r
      rcases Nat.lt_or_ge r 8 with h8 | h8
      · have hra : r < a.length := by rw [h.len]; exact h8
        rw [List.getElem?_eq_getElem hra, hcnt r _ (List.getElem?_eq_getElem hra)]
        split
        · rw [List.getElem?_append_left (by simpa), List.getElem?_replicate, if_pos (by assumption)]
        · rw [List.getElem?_append_right (by simpa using by omega), List.getElem?_replicate, if_pos (by simp; omega)]
      · rw [List.getElem?_eq_none (by rw [h.len]; exact h8), List.getElem?_eq_none (by simp; omega)]
    have hd2 : d = ds.length := by rw [h.sum, ha]; simp
    refine ⟨by omega, by omega, fun r hr => ?_⟩
    rw [ha, List.getElem?_append_left (by simp; omega), List.getElem?_replicate, if_pos (by omega)]
  · rintro ⟨h1, h8, hall⟩
    have h0 := sum_ones a d (by rw [h.len]; exact h8) hall h.sum.symm
    have hone : ∀ r, r < d → cntR s s.size r = 1 := fun r hr => (h.at_ r 1 (hall r hr)).symm
    refine ⟨(List.range d).map fun r => (dockAt s r).getD 0, fun e => ?_, fun r i e => ?_, fun i hi h3 => ?_⟩
    · have : ((List.range d).map fun r => (dockAt s r).getD 0).length = d := by simp
      rw [e] at this; simp at this; omega
    · rw [List.getElem?_map] at e
      rcases Nat.lt_or_ge r d with hr | hr
      · rw [List.getElem?_range hr] at e
        simp at e
        obtain ⟨x, hx⟩ := cnt_pos (s := s) (n := s.size) (r := r) (by rw [hone r hr]; decide)
        obtain ⟨y, hy⟩ := dockAt_ex hx
        rw [hy] at e
        simp at e; subst e
        exact dockAt_some hy
      · rw [List.getElem?_eq_none (by simpa using hr)] at e
        simp at e
    · have hd := kd_dock h3
      have hb : bt s i = 48 + (bt s i - 48) := by unfold kdS at h3; omega
      have hr : bt s i - 48 < d := by
        rcases Nat.lt_or_ge (bt s i - 48) d with hr | hr
        · exact hr
        · exfalso
          have hra : bt s i - 48 < a.length := by rw [h.len]; omega
          have e := h0 _ _ hr (List.getElem?_eq_getElem hra)
          have e2 := h.at_ _ _ (List.getElem?_eq_getElem hra)
          exact cnt_ne ⟨hi, h3, hb⟩ (by rw [← e2, e])
      rw [List.getElem?_map, List.getElem?_range hr]
      obtain ⟨y, hy⟩ := dockAt_ex ⟨hi, h3, hb⟩
      simp only [Option.map_some, hy, Option.getD_some, Option.some.injEq]
      exact cnt_one (hone _ hr) (dockAt_some hy) ⟨hi, h3, hb⟩
end
end Go.Proofs.YtolkkinophklcaaDoor
