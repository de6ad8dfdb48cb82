/- Floors of given texts, plain: checked by reckoning. -/
import Derived.Test.YtolkkinophklcaaDoorFlSp
import Derived.Test.YtolkkinophklcaaDoorFlN
namespace Go.Proofs.YtolkkinophklcaaDoor
set_option linter.unusedVariables false
set_option linter.unusedSimpArgs false
open Go.RowKit

def stepC (W H : Nat) (s : ByteArray) (on : List Nat) : List Nat := on ++ (on.flatMap (besideP W H)).filter fun j => decide (laneI s j)
def iterC (W H : Nat) (s : ByteArray) : Nat → List Nat → List Nat
  | 0, on => on
  | n + 1, on => iterC W H s n ((stepC W H s on).eraseDups)
def docksC (s : ByteArray) : List Nat := (List.range (docksP s s.size).length).map fun r => (dockAt s r).getD 0
def dockOkC (s : ByteArray) (ds : List Nat) : Bool := !ds.isEmpty && (List.range ds.length).all (fun r => match ds[r]? with
    | some i => decide (i < s.size) && kdS s i == 3 && bt s i == 48 + r
    | none => false) && (List.range s.size).all fun i => if kdS s i = 3 then ds[bt s i - 48]? == some i else true
def rightC (W H : Nat) (s : ByteArray) : Bool :=
  decide (1 ≤ W) && decide (W ≤ 16) && decide (1 ≤ H) && decide (H ≤ 16) && decide (s.size = W * H) && (List.range s.size).all (fun i => kdS s i != 0) && dockOkC s (docksC s) &&
  (match (lanesTo s s.size).head? with
    | some l => let on := iterC W H s s.size [l]; (lanesTo s s.size).all fun i => on.contains i
    | none => false) &&
  (List.range s.size).all fun i => if kdS s i = 3 then (besideP W H i).any (fun j => decide (laneI s j)) else true
theorem eraseDups_mem {l : List Nat} {x : Nat} : x ∈ l.eraseDups ↔ x ∈ l := by simp
theorem iterC_conn {W H l : Nat} {s : ByteArray} : ∀ (n : Nat) (on : List Nat), (∀ j ∈ on, Conn W H s l j) → ∀ j ∈ iterC W H s n on, Conn W H s l j := by
  intro n
  induction n with
  | zero => intro on h; exact h
  | succ n ih =>
    intro on h
    refine ih _ fun j hj => ?_
    rw [eraseDups_mem] at hj
    rcases List.mem_append.1 hj with hj | hj
    · exact h j hj
    · obtain ⟨h1, h2⟩ := List.mem_filter.1 hj
      obtain ⟨i, h3, h4⟩ := List.mem_flatMap.1 h1
      exact .step (h i h3) h4 (by simpa using h2)
theorem dockOkC_ok {s : ByteArray} {ds : List Nat} (h : dockOkC s ds = true) : DocksL s ds := by
  unfold dockOkC at h
  simp only [Bool.and_eq_true, List.all_eq_true, List.mem_range] at h
  obtain ⟨⟨h1, h2⟩, h3⟩ := h
  refine ⟨by simpa using h1, fun r i hr => ?_, fun i hi hk => ?_⟩
  · have := h2 r (List.getElem?_eq_some_iff.1 hr).1
    rw [hr] at this
    simp at this
    exact ⟨this.1.1, this.1.2, this.2⟩
  · have := h3 i hi
    rw [if_pos hk] at this
    simpa using this
theorem rightC_ok {W H : Nat} {s : ByteArray} (h : rightC W H s = true) : rightB ⟨W, H, s⟩ = true := by
  unfold rightC at h
  simp only [Bool.and_eq_true, List.all_eq_true, List.mem_range, decide_eq_true_eq] at h
  obtain ⟨⟨⟨⟨⟨⟨⟨⟨h1, h2⟩, h3⟩, h4⟩, h5⟩, h6⟩, h7⟩, h8⟩, h9⟩ := h
  refine rightB_t ⟨by simp; omega, by simp; omega, by simp; omega, by simp; omega, by simp [h5], fun i hi => by simpa using h6 i hi, ⟨_, dockOkC_ok h7⟩, ?_, fun i hi hk => ?_⟩
  · cases hl : (lanesTo s s.size).head? with
    | none => rw [hl] at h8; simp at h8
    | some l =>
      rw [hl] at h8
      simp only [List.all_eq_true, List.contains_iff_mem] at h8
      have hlm := lanesTo_mem.1 (List.mem_of_head? hl)
      refine (joined_one (by simpa using h1) (by simpa using h5) (l := l) hlm).2 fun j hj => ?_
      have := h8 j (lanesTo_mem.2 hj)
      simpa using iterC_conn s.size [l] (fun j hj => by rw [List.mem_singleton.1 hj]; exact .refl) j this
  · have := h9 i hi
    rw [if_pos hk] at this
    simp only [List.any_eq_true, decide_eq_true_eq] at this
    simpa using this
theorem parseP_of {s : ByteArray} {R : List ByteArray} {W H : Nat} {S : ByteArray} (hR : rowsB s = R) (hb : badRow R = none) (hW : (R.getD 0 ByteArray.empty).size = W) (hH : R.length = H) (hS : joinB R = S) (hr : rightC W H S = true) :
    parseP s = (⟨W, H, S⟩, 0, 0) := by
  unfold parseP
  rw [hR, hb]
  simp only
  rw [hW, hH, hS, if_pos (rightC_ok hr)]
theorem parseP_not {s : ByteArray} {R : List ByteArray} {W H : Nat} {S : ByteArray} (hR : rowsB s = R) (hb : badRow R = none) (hW : (R.getD 0 ByteArray.empty).size = W) (hH : R.length = H) (hS : joinB R = S) (hr : rightB ⟨W, H, S⟩ = false) :
    parseP s = (Flr.zero, H, 30) := by
  unfold parseP
  rw [hR, hb]
  simp only
  rw [hW, hH, hS, if_neg (by rw [hr]; simp)]
theorem nearP_at {f : Flr} {j W H : Nat} (hb : rightB f = true) (hj : j < f.s.size) (hW : f.W = W) (hH : f.H = H) (hk : kdS f.s j = 2 ∨ kdS f.s j = 3) : nearP f j = (besideP W H j).filter fun x => kdS f.s x != 1 := by
  unfold nearP
  rw [hW, hH, if_pos]
  · simp
  · rcases hk with h | h
    · exact .inl (isB_iff.2 ⟨by omega, by omega, by simp [h], rightB_iff.1 hb⟩)
    · exact .inr (isB_iff.2 ⟨by omega, by omega, by simp [h], rightB_iff.1 hb⟩)
theorem right_kdP {f : Flr} (r : RightP f) {i : Nat} (hi : i < f.s.size) : kdS f.s i = 1 ∨ kdS f.s i = 2 ∨ kdS f.s i = 3 := by
  have h1 := r.kinds i hi
  have h2 : kdS f.s i ≤ 3 := kindB_le _
  omega
end Go.Proofs.YtolkkinophklcaaDoor
