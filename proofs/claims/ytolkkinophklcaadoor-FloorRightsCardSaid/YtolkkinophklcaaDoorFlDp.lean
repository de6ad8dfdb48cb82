/- Floors, plain: how docks are found. No function of the program. -/
import Derived.Test.YtolkkinophklcaaDoorFlC
namespace Go.Proofs.YtolkkinophklcaaDoor
set_option linter.unusedVariables false
set_option linter.unusedSimpArgs false
open Go.RowKit

/-- Behind k cells: a: at its number, where each dock is (and one more); n: how many. -/
structure DkI (s : ByteArray) (k : Nat) (a : List Nat) (n : Nat) : Prop where
  len : a.length = 8
  sound : ∀ r i : Nat, a[r]? = some (i + 1) → i < k ∧ kdS s i = 3 ∧ bt s i = 48 + r
  full : ∀ i, i < k → kdS s i = 3 → a[bt s i - 48]? = some (i + 1)
  cnt : n = (a.filter fun x => x != 0).length
theorem filter_set (a : List Nat) : ∀ (r x : Nat), a[r]? = some 0 → x ≠ 0 → ((a.set r x).filter fun x => x != 0).length = (a.filter fun x => x != 0).length + 1 := by
  induction a with
  | nil => intro r x h; simp at h
  | cons y ys ih =>
    intro r x h hx
    rcases r with _ | r
    · simp at h; subst h; simp [hx]
    · simp at h
      have := ih r x h hx
      simp only [List.set_cons_succ, List.filter_cons]
      split <;> simp [this]
section
variable {s : ByteArray} {k n : Nat} {a : List Nat}
theorem DkI.start (s : ByteArray) : DkI s 0 (List.replicate 8 0) 0 := ⟨rfl, fun r i h => by
    rw [List.getElem?_replicate] at h
    split at h <;> simp at h, fun i h => by omega, rfl⟩
theorem DkI.n8 (h : DkI s k a n) : n ≤ 8 := by rw [h.cnt, ← h.len]; exact List.length_filter_le _ _
theorem DkI.skip (h : DkI s k a n) (hk : kdS s k ≠ 3) : DkI s (k + 1) a n :=
  ⟨h.len, fun r i e => by have := h.sound r i e; exact ⟨by omega, this.2⟩, fun i hi h3 => by
    rcases Nat.lt_or_ge i k with h4 | h4
    · exact h.full i h4 h3
    · obtain rfl : i = k := by omega
      exact absurd h3 hk, h.cnt⟩
theorem DkI.take (h : DkI s k a n) {r : Nat} (hk : kdS s k = 3) (hr : bt s k = 48 + r) (h0 : a[r]? = some 0) : DkI s (k + 1) (a.set r (k + 1)) (n + 1) := by
  have hrl : r < a.length := (List.getElem?_eq_some_iff.1 h0).1
  refine ⟨by rw [List.length_set]; exact h.len, fun r' i e => ?_, fun i hi h3 => ?_, by rw [filter_set a r (k + 1) h0 (by omega), ← h.cnt]⟩
  · by_cases hrr : r = r'
    · subst hrr
      rw [List.getElem?_set_self hrl] at e
      simp at e; subst e; exact ⟨by omega, hk, hr⟩
    · rw [List.getElem?_set_ne hrr] at e
      have := h.sound r' i e; exact ⟨by omega, this.2⟩
  · rcases Nat.lt_or_ge i k with h4 | h4
    · have h5 := h.full i h4 h3
      rw [List.getElem?_set]
      by_cases hrr : r = bt s i - 48
      · rw [← hrr] at h5; rw [h0] at h5; simp at h5
      · rw [if_neg hrr]; exact h5
    · obtain rfl : i = k := by omega
      have : bt s i - 48 = r := by omega
      rw [this, List.getElem?_set, if_pos rfl, if_pos hrl]
theorem DkI.twice (h : DkI s k a n) (hks : k < s.size) {r x : Nat} (hk : kdS s k = 3) (hr : bt s k = 48 + r) (h0 : a[r]? = some (x + 1)) : ¬ ∃ ds, DocksL s ds := by
  rintro ⟨ds, hd⟩
  obtain ⟨h1, h2, h3⟩ := h.sound r x h0
  have e1 := hd.all k hks hk
  have e2 := hd.all x (by omega) h2
  rw [h3, ← hr, e1] at e2
  simp at e2
  omega
theorem DkI.shape (h : DkI s s.size a n) {ds : List Nat} (hd : DocksL s ds) : a = ds.map (· + 1) ++ List.replicate (8 - ds.length) 0 ∧ n = ds.length := by
  have hl := hd.len
  have ha : a = ds.map (· + 1) ++ List.replicate (8 - ds.length) 0 := by
    apply List.ext_getElem?
    intro r
    rcases Nat.lt_or_ge r ds.length with h1 | h1
    · rw [List.getElem?_append_left (by simpa using h1), List.getElem?_map]
      obtain ⟨h2, h3, h4⟩ := hd.at_ r _ (List.getElem?_eq_getElem h1)
      have := h.full _ h2 h3
      rw [h4, Nat.add_sub_cancel_left] at this
      rw [this, List.getElem?_eq_getElem h1]; rfl
    · rw [List.getElem?_append_right (by simpa using h1), List.getElem?_replicate, List.length_map]
      rcases Nat.lt_or_ge r 8 with h8 | h8
      · rw [if_pos (by omega)]
        have hra : r < a.length := by rw [h.len]; exact h8
        rw [List.getElem?_eq_getElem hra]
        rcases hx : a[r] with _ | x
        · rfl
        · exfalso
          obtain ⟨q1, q2, q3⟩ := h.sound r x (by rw [List.getElem?_eq_getElem hra, hx])
          have := hd.all x q1 q2
          rw [q3, Nat.add_sub_cancel_left] at this
          have := (List.getElem?_eq_some_iff.1 this).1
          omega
      · rw [if_neg (by omega), List.getElem?_eq_none (by rw [h.len]; exact h8)]
  refine ⟨ha, ?_⟩
  rw [h.cnt, ha, List.filter_append, List.length_append]
  have e1 : (ds.map (· + 1)).filter (fun x => x != 0) = ds.map (· + 1) := by
    rw [List.filter_eq_self]
    intro x hx
    obtain ⟨y, _, rfl⟩ := List.mem_map.1 hx
    simp
  have e2 : (List.replicate (8 - ds.length) 0).filter (fun x => x != 0) = [] := by
    rw [List.filter_eq_nil_iff]
    intro x hx
    rw [(List.mem_replicate.1 hx).2]; simp
  rw [e1, e2]; simp
theorem DkI.hole (h : DkI s s.size a n) {j : Nat} (hj : j < n) (h0 : a[j]? = some 0) : ¬ ∃ ds, DocksL s ds := by
  rintro ⟨ds, hd⟩
  obtain ⟨e1, e2⟩ := h.shape hd
  rw [e1, List.getElem?_append_left (by simp; omega), List.getElem?_map, List.getElem?_eq_getElem (by omega)] at h0
  simp at h0
theorem DkI.none (h : DkI s s.size a 0) : ¬ ∃ ds, DocksL s ds := by
  rintro ⟨ds, hd⟩
  have := (h.shape hd).2
  exact hd.ne (List.eq_nil_of_length_eq_zero this.symm)
theorem DkI.docks (h : DkI s s.size a n) (h0 : 0 < n) (hall : ∀ j, j < n → a[j]? ≠ some 0) : DocksL s ((a.take n).map (· - 1)) := by
  have hn8 := h.n8
  have hla := h.len
  have hrest : ∀ r : Nat, n ≤ r → ∀ x, a[r]? ≠ some (x + 1) := by
    intro r hr x e
    have h1 : a = a.take n ++ a.drop n := (List.take_append_drop n a).symm
    have h2 : (a.take n).filter (fun x => x != 0) = a.take n := by
      rw [List.filter_eq_self]
      intro y hy
      obtain ⟨j, hj⟩ := List.getElem?_of_mem hy
      rw [List.getElem?_take] at hj
      split at hj
      · rename_i hjn
        have := hall j hjn
        rw [hj] at this
        simpa using this
      · cases hj
    have h3 := h.cnt
    rw [h1, List.filter_append, h2, List.length_append, List.length_take, Nat.min_eq_left (by omega)] at h3
    have h4 : (a.drop n).filter (fun x => x != 0) = [] := List.eq_nil_of_length_eq_zero (by omega)
    rw [List.filter_eq_nil_iff] at h4
    have h5 : x + 1 ∈ a.drop n := by
      apply List.mem_of_getElem? (i := r - n)
      rw [List.getElem?_drop, show n + (r - n) = r by omega]; exact e
    have := h4 _ h5
    simp at this
  refine ⟨fun e => ?_, fun r i e => ?_, fun i hi h3 => ?_⟩
  · have h9 : ((a.take n).map (· - 1)).length = n := by rw [List.length_map, List.length_take]; omega
    rw [e] at h9; simp at h9; omega
  · rw [List.getElem?_map, List.getElem?_take] at e
    split at e
    · rename_i hr
      have hra : r < a.length := by omega
      have hne := hall r hr
      rw [List.getElem?_eq_getElem hra] at e hne
      simp at e hne
      exact h.sound r i (by rw [List.getElem?_eq_getElem hra]; congr 1; omega)
    · simp at e
  · have e := h.full i hi h3
    have hr : bt s i - 48 < n := by
      rcases Nat.lt_or_ge (bt s i - 48) n with h4 | h4
      · exact h4
      · exact absurd e (hrest _ h4 i)
    rw [List.getElem?_map, List.getElem?_take, if_pos hr, e]; rfl
end
end Go.Proofs.YtolkkinophklcaaDoor
