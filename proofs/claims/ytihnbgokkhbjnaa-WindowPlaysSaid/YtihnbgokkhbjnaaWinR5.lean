/- The document's table (carfaxref06): plain laws. -/
import Derived.Test.YtihnbgokkhbjnaaWinR4
namespace Go.Proofs.Ytihnbgokkhbjnaa
set_option linter.unusedVariables false
set_option linter.unusedSimpArgs false
open Go.RowKit

theorem over_eq {l : List (Int × Int)} (hw : WFL l) {a b : Int} (hab : a < b) : rover l a b = (match l[place l a]? with | some x => decide (x.1 < b) | none => false) := by
  have h1 : rover (l.take (place l a)) a b = false := by
    simp only [rover, List.any_eq_false]
    intro x hx
    have := place_before hx
    simp; omega
  have h0 : rover l a b = rover (l.take (place l a) ++ l.drop (place l a)) a b := by rw [List.take_append_drop]
  have h2 : rover l a b = rover (l.drop (place l a)) a b := by rw [h0]; unfold rover at h1 ⊢; rw [List.any_append, h1, Bool.false_or]
  rw [h2]
  cases hx : l[place l a]? with
  | none => rw [List.drop_eq_nil_of_le (List.getElem?_eq_none_iff.1 hx)]; rfl
  | some x =>
    have hlt := (List.getElem?_eq_some_iff.1 hx).1
    have hd : l.drop (place l a) = x :: l.drop (place l a + 1) := by
      rw [List.drop_eq_getElem_cons hlt]; congr 1; exact (List.getElem?_eq_some_iff.1 hx).2
    have hxm : a < x.2 := place_behind hw (by rw [hd]; exact List.mem_cons_self)
    have hp : (x :: l.drop (place l a + 1)).Pairwise (fun a b => a.2 ≤ b.1) := hd ▸ hw.ord.sublist (List.drop_sublist _ _)
    have hxr := hw.rt x (List.mem_of_getElem? hx)
    rw [hd]
    simp only [rover, List.any_cons, hxm, decide_true, Bool.and_true]
    by_cases c : x.1 < b
    · simp [c]
    · simp only [c, decide_false, Bool.false_or, List.any_eq_false]
      intro y hy
      have := (List.pairwise_cons.1 hp).1 y hy
      simp; omega

theorem posR_take (R : List Rw) (c a : Int) : R.take (posR R c a) = R.takeWhile fun r => !(decide (r.1 = c) && decide (a ≤ r.2.1)) := by
  unfold posR
  conv => lhs; arg 2; rw [← List.takeWhile_append_dropWhile (p := fun r : Rw => !(decide (r.1 = c) && decide (a ≤ r.2.1))) (l := R)]
  exact List.take_left
theorem posR_drop (R : List Rw) (c a : Int) : R.drop (posR R c a) = R.dropWhile fun r => !(decide (r.1 = c) && decide (a ≤ r.2.1)) := by
  unfold posR
  conv => lhs; arg 2; rw [← List.takeWhile_append_dropWhile (p := fun r : Rw => !(decide (r.1 = c) && decide (a ≤ r.2.1))) (l := R)]
  exact List.drop_left
theorem posR_before {R : List Rw} {c a : Int} {x : Int × Int} (h : x ∈ flt (R.take (posR R c a)) c) : x.1 < a := by
  rw [posR_take] at h
  simp only [flt, List.mem_map, List.mem_filter, decide_eq_true_eq] at h
  obtain ⟨r, ⟨h1, h2⟩, rfl⟩ := h
  induction R with
  | nil => simp at h1
  | cons y R ih =>
    rw [List.takeWhile_cons] at h1
    split at h1
    · rename_i hy
      simp only [List.mem_cons] at h1
      rcases h1 with rfl | h1
      · simp [h2] at hy; exact hy
      · exact ih h1
    · simp at h1
theorem posR_behind {R : List Rw} {c a : Int} (hw : WFL (flt R c)) {x : Int × Int} (h : x ∈ flt (R.drop (posR R c a)) c) : a < x.2 := by
  have hl : flt R c = flt (R.take (posR R c a)) c ++ flt (R.drop (posR R c a)) c := by rw [← flt_append, List.take_append_drop]
  rw [hl] at hw
  cases hd : R.drop (posR R c a) with
  | nil => rw [hd] at h; simp [flt] at h
  | cons y D =>
    have hy : y.1 = c ∧ a ≤ y.2.1 := by
      rw [posR_drop] at hd
      have := List.head?_dropWhile_not (fun r : Rw => !(decide (r.1 = c) && decide (a ≤ r.2.1))) R
      rw [hd] at this
      simpa using this
    rw [hd, flt_cons, if_pos hy.1] at h hw
    have hyr := hw.rt y.2 (by simp)
    simp only [List.mem_cons] at h
    rcases h with rfl | h
    · omega
    · have hp := (List.pairwise_cons.1 (List.pairwise_append.1 hw.ord).2.1).1 x h
      have hxr := hw.rt x (by simp [h])
      omega

theorem ref_take {R : List Rw} {T : Int → List (Int × Int)} (hR : ∀ c, flt R c = T c) (hT : WFT T) (hl : R.length ≤ 1000) (c a b : Int) : rtakeE R c a b = takeE (T c) a b ∧ ∀ c', flt (rtakeR R c a b) c' = takeT T c a b c' := by
  have hw := hT c
  rw [← hR] at hw
  have hfl := flt_len R c
  have hE : rtakeE R c a b = takeE (T c) a b := by
    rw [← hR]
    unfold rtakeE takeE rok
    by_cases hok : 0 ≤ a ∧ a < b ∧ b ≤ 1048576
    · have h4 : ¬ 4096 ≤ (flt R c).length := by omega
      rw [if_neg (not_not_intro hok), over_eq hw hok.2.1]
      cases (flt R c)[place (flt R c) a]? with
      | none => simp [hok, h4]
      | some x => simp [hok, h4]
    · rw [if_pos hok, if_neg]
      simp only [Bool.and_eq_true, decide_eq_true_eq]
      intro h; exact hok ⟨h.1.1, h.1.2, h.2⟩
  refine ⟨hE, fun c' => ?_⟩
  unfold rtakeR takeT
  rw [← hE]
  by_cases h0 : rtakeE R c a b = 0
  · rw [if_pos h0, if_pos h0]
    have hok : a < b := by
      unfold rtakeE rok at h0
      split at h0
      · rename_i h; simp at h; exact h.1.2
      · simp at h0
    have hov : rover (flt R c) a b = false := by
      unfold rtakeE at h0
      split at h0
      · split at h0
        · simp at h0
        · rename_i h; simpa using h
      · simp at h0
    have hl : flt R c = flt (R.take (posR R c a)) c ++ flt (R.drop (posR R c a)) c := by rw [← flt_append, List.take_append_drop]
    have hpl : place (flt R c) a = (flt (R.take (posR R c a)) c).length := by
      refine place_eq _ _ _ (by rw [hl]; simp) (fun k x hx hk => ?_) (fun k x hx hk => ?_)
      · have hm : x ∈ flt (R.take (posR R c a)) c := by
          rw [hl, List.getElem?_append_left hk] at hx
          exact List.mem_of_getElem? hx
        have h1 := posR_before hm
        simp only [rover, List.any_eq_false] at hov
        have := hov x (by rw [hl]; simp [hm])
        simp at this; omega
      · have hm : x ∈ flt (R.drop (posR R c a)) c := by
          rw [hl, List.getElem?_append_right hk] at hx
          exact List.mem_of_getElem? hx
        exact posR_behind hw hm
    unfold insR setT
    by_cases hc : c' = c
    · subst hc
      rw [if_pos rfl, ← hR, hpl, flt_append, flt_append, flt_one, if_pos rfl]
      unfold insL
      conv => rhs; rw [hl]
      rw [List.take_left, List.drop_left]
    · rw [if_neg hc, flt_append, flt_append, flt_one, if_neg (fun e => hc e.symm), List.append_nil, ← flt_append, List.take_append_drop, hR]
  · rw [if_neg h0, if_neg h0, hR]

theorem flt_mem (R : List Rw) (c : Int) (x : Int × Int) : (c, x) ∈ R ↔ x ∈ flt R c := by
  simp only [flt, List.mem_map, List.mem_filter, decide_eq_true_eq]
  constructor
  · intro h; exact ⟨(c, x), ⟨h, rfl⟩, rfl⟩
  · rintro ⟨r, ⟨h1, h2⟩, rfl⟩; subst h2; exact h1
theorem flt_erase (R : List Rw) (c c' : Int) (x : Int × Int) : flt (R.erase (c, x)) c' = if c' = c then (flt R c).erase x else flt R c' := by
  induction R with
  | nil => simp [flt]
  | cons r R ih =>
    by_cases hr : r = (c, x)
    · subst hr
      rw [List.erase_cons_head, flt_cons, flt_cons]
      by_cases hc : c' = c
      · subst hc; simp
      · have : ¬ c = c' := fun e => hc e.symm
        simp [hc, this]
    · rw [List.erase_cons_tail (by simpa using hr), flt_cons, ih, flt_cons, flt_cons]
      by_cases hc : c' = c
      · subst hc
        by_cases h1 : r.1 = c'
        · have : ¬ r.2 = x := fun e => hr (Prod.ext h1 e)
          simp [h1, List.erase_cons_tail, this]
        · simp [h1]
      · simp [hc]
theorem ref_drop {R : List Rw} {T : Int → List (Int × Int)} (hR : ∀ c, flt R c = T c) (c : Int) (x : Int × Int) : rdropE R (c, x) = dropE (T c) x ∧ ∀ c', flt (R.erase (c, x)) c' = dropT T c x c' := by
  refine ⟨?_, fun c' => ?_⟩
  · unfold rdropE dropE
    rw [← hR]
    simp only [flt_mem]
  · rw [flt_erase]
    unfold dropT setT
    by_cases hm : x ∈ T c
    · rw [if_pos hm]
      by_cases hc : c' = c
      · simp only [hc, if_true]; rw [hR, List.erase_eq_eraseIdx_of_idxOf rfl]
      · simp only [hc, if_false]; exact hR c'
    · rw [if_neg hm]
      by_cases hc : c' = c
      · subst hc; rw [if_pos rfl, hR, List.erase_of_not_mem hm]
      · rw [if_neg hc, hR]
theorem ref_forget {R : List Rw} {T : Int → List (Int × Int)} (hR : ∀ c, flt R c = T c) (hT : WFT T) (m : Int) : ∀ c', flt (rforget R m) c' = (T c').drop (place (T c') m) := by
  intro c
  rw [drop_filter (hT c) m, ← hR]
  simp only [flt, rforget, List.filter_map, List.filter_filter]
  congr 1
  apply List.filter_congr
  intro r _
  simp [Bool.and_comm]
theorem ref_is {l : List (Int × Int)} (hw : WFL l) (m : Int) : isF l m = (!inB m l && (decide (0 ≤ m) && decide (m < 1048576))) := by
  by_cases h1 : 0 ≤ m
  · by_cases h2 : m < 1048576
    · rw [is_in hw m h1 h2]; simp [h1, h2]
    · unfold isF; simp [h2]
  · unfold isF; simp [h1]
theorem rtake_len (R : List Rw) (c a b : Int) : (rtakeR R c a b).length ≤ R.length + 1 := by
  unfold rtakeR
  split
  · unfold insR
    have : posR R c a ≤ R.length := by unfold posR; exact List.Sublist.length_le (List.takeWhile_sublist _)
    simp; omega
  · omega
theorem rforget_len (R : List Rw) (m : Int) : (rforget R m).length ≤ R.length := List.length_filter_le _ _

/-- What an act does to the document's table. -/
def ractR (R : List Rw) (a : WAct) : List Rw := if a.k % 3 = 0 then rtakeR R a.c a.x.1 a.x.2 else if a.k % 3 = 1 then R.erase (a.c, a.x) else rforget R a.x.1
theorem ract_flt {R : List Rw} {T : Int → List (Int × Int)} (hR : ∀ c, flt R c = T c) (hT : WFT T) (hl : R.length ≤ 1000) (a : WAct) : ∀ c, flt (ractR R a) c = actT T a c := by
  intro c
  unfold ractR actT
  split
  · exact (ref_take hR hT hl _ _ _).2 c
  · split
    · exact (ref_drop hR _ _).2 c
    · exact ref_forget hR hT _ c
theorem ract_len (R : List Rw) (a : WAct) : (ractR R a).length ≤ R.length + 1 := by
  unfold ractR
  split
  · exact rtake_len _ _ _ _
  · split
    · have := List.length_erase_le (l := R) (a := (a.c, a.x)); omega
    · have := rforget_len R a.x.1; omega
end Go.Proofs.Ytihnbgokkhbjnaa
