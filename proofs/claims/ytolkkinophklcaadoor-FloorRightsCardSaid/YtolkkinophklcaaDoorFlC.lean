/- Floors, plain: what hangs together, docks, which floors may be. No function of the program. -/
import Derived.Test.YtolkkinophklcaaDoorFlP
namespace Go.Proofs.YtolkkinophklcaaDoor
set_option linter.unusedVariables false
set_option linter.unusedSimpArgs false
open Go.RowKit

def kdS (s : ByteArray) (i : Nat) : Nat := kindB (bt s i)
def laneI (s : ByteArray) (i : Nat) : Prop := i < s.size ∧ kdS s i = 2
instance (s : ByteArray) (i : Nat) : Decidable (laneI s i) := inferInstanceAs (Decidable (_ ∧ _))
theorem beside_mem {W H c j : Nat} : j ∈ besideP W H c ↔ (0 < c / W ∧ j = c - W) ∨ (c % W + 1 < W ∧ j = c + 1) ∨ (c / W + 1 < H ∧ j = c + W) ∨ (0 < c % W ∧ j = c - 1) := by
  unfold besideP
  simp only [List.mem_append]
  constructor
  · rintro (((h | h) | h) | h)
    all_goals
      split at h
      · simp at h; simp [*]
      · simp at h
  · rintro (⟨h, rfl⟩ | ⟨h, rfl⟩ | ⟨h, rfl⟩ | ⟨h, rfl⟩)
    · exact .inl (.inl (.inl (by simp [h])))
    · exact .inl (.inl (.inr (by simp [h])))
    · exact .inl (.inr (by simp [h]))
    · exact .inr (by simp [h])
theorem beside_lt {W H c j : Nat} (hW : 1 ≤ W) (hc : c < W * H) (h : j ∈ besideP W H c) : j < W * H := by
  have hm := Nat.div_add_mod c W
  have hl := Nat.mod_lt c hW
  rcases beside_mem.1 h with ⟨_, rfl⟩ | ⟨h1, rfl⟩ | ⟨h1, rfl⟩ | ⟨_, rfl⟩
  · omega
  · have : c / W < H := Nat.div_lt_of_lt_mul hc
    have h2 : W * (c / W + 1) ≤ W * H := Nat.mul_le_mul_left W this
    rw [Nat.mul_add] at h2
    omega
  · have h2 : W * (c / W + 1 + 1) ≤ W * H := Nat.mul_le_mul_left W h1
    rw [Nat.mul_add, Nat.mul_add] at h2
    omega
  · omega
theorem beside_symm {W H c j : Nat} (hW : 1 ≤ W) (hc : c < W * H) (h : j ∈ besideP W H c) : c ∈ besideP W H j := by
  have hm := Nat.div_add_mod c W
  have hl := Nat.mod_lt c hW
  have hdc : c / W < H := Nat.div_lt_of_lt_mul hc
  rw [beside_mem]
  rcases beside_mem.1 h with ⟨h1, rfl⟩ | ⟨h1, rfl⟩ | ⟨h1, rfl⟩ | ⟨h1, rfl⟩
  · have h2 : W * 1 ≤ W * (c / W) := Nat.mul_le_mul_left W h1
    have h3 : (c - W) / W + 1 = c / W := by
      have : c = (c - W) + W := by omega
      conv => rhs; rw [this, Nat.add_div_right _ hW]
    exact .inr (.inr (.inl ⟨by omega, by omega⟩))
  · have h3 : (c + 1) % W = c % W + 1 := by
      rw [Nat.add_mod, Nat.mod_eq_of_lt (a := c % W + 1 % W)]
      · by_cases h : W = 1
        · omega
        · rw [Nat.mod_eq_of_lt (by omega : 1 < W)]
      · by_cases h : W = 1
        · omega
        · rw [Nat.mod_eq_of_lt (by omega : 1 < W)]; omega
    exact .inr (.inr (.inr ⟨by omega, by omega⟩))
  · exact .inl ⟨Nat.div_pos (Nat.le_add_left W c) hW, by omega⟩
  · have h3 : (c - 1) % W + 1 = c % W := by
      have e : c - 1 = W * (c / W) + (c % W - 1) := by omega
      rw [e, Nat.mul_add_mod, Nat.mod_eq_of_lt (by omega)]; omega
    exact .inr (.inl ⟨by omega, by omega⟩)
theorem beside_ne {W H c : Nat} (hW : 1 ≤ W) : c ∉ besideP W H c := by
  intro h
  have hm := Nat.div_add_mod c W
  rcases beside_mem.1 h with ⟨h1, e⟩ | ⟨h1, e⟩ | ⟨h1, e⟩ | ⟨h1, e⟩
  · have h2 : W * 1 ≤ W * (c / W) := Nat.mul_le_mul_left W h1
    omega
  · omega
  · omega
  · have := Nat.mod_le c W; omega

/-- j is reached from i, through lanes. -/
inductive Conn (W H : Nat) (s : ByteArray) (i : Nat) : Nat → Prop
  | refl : Conn W H s i i
  | step {j k : Nat} : Conn W H s i j → k ∈ besideP W H j → laneI s k → Conn W H s i k
section
variable {W H i j k : Nat} {s : ByteArray}
theorem Conn.trans (h : Conn W H s i j) (g : Conn W H s j k) : Conn W H s i k := by
  induction g with
  | refl => exact h
  | step _ h1 h2 ih => exact .step ih h1 h2
theorem Conn.lane (h : Conn W H s i j) (hi : laneI s i) : laneI s j := by cases h with | refl => exact hi | step _ _ h => exact h
theorem Conn.symm (hW : 1 ≤ W) (hl : s.size = W * H) (h : Conn W H s i j) (hi : laneI s i) : Conn W H s j i := by
  induction h with
  | refl => exact .refl
  | step h0 h1 h2 ih =>
    have hj := h0.lane hi
    exact (Conn.step .refl (beside_symm hW (by rw [← hl]; exact hj.1) h1) hj).trans ih
/-- Whatever holds where the way begins, and goes on to lanes beside, holds where it comes. -/
theorem Conn.closed {p : Nat → Prop} (h : Conn W H s i j) (h0 : p i) (hs : ∀ j k, p j → k ∈ besideP W H j → laneI s k → p k) : p j := by
  induction h with
  | refl => exact h0
  | step _ h1 h2 ih => exact hs _ _ ih h1 h2
end
def joinedP (W H : Nat) (s : ByteArray) : Prop := (∃ i, laneI s i) ∧ ∀ i j, laneI s i → laneI s j → Conn W H s i j
theorem joined_one {W H l : Nat} {s : ByteArray} (hW : 1 ≤ W) (hs : s.size = W * H) (hl : laneI s l) : joinedP W H s ↔ ∀ j, laneI s j → Conn W H s l j :=
  ⟨fun h j hj => h.2 l j hl hj, fun h => ⟨⟨l, hl⟩, fun i j hi hj => ((h i hi).symm hW hs hl).trans (h j hj)⟩⟩

/-! ### Docks -/
structure DocksL (s : ByteArray) (ds : List Nat) : Prop where
  ne : ds ≠ []
  at_ : ∀ r i, ds[r]? = some i → i < s.size ∧ kdS s i = 3 ∧ bt s i = 48 + r
  all : ∀ i, i < s.size → kdS s i = 3 → ds[bt s i - 48]? = some i
theorem kd_dock {c : Nat} (h : kindB c = 3) : 48 ≤ c ∧ c < 56 := by
  unfold kindB at h
  split at h
  · cases h
  · split at h
    · cases h
    · split at h
      · assumption
      · cases h
theorem kd_lane {c : Nat} (h : kindB c = 2) : 97 ≤ c ∧ c ≤ 122 := by
  unfold kindB at h
  split at h
  · cases h
  · split at h
    · assumption
    · split at h <;> cases h
theorem kd_wall {c : Nat} (h : kindB c = 1) : c = 35 := by
  unfold kindB at h
  split at h
  · assumption
  · split at h
    · cases h
    · split at h <;> cases h
theorem DocksL.uniq {s : ByteArray} {a b : List Nat} (ha : DocksL s a) (hb : DocksL s b) : a = b := by
  have key : ∀ {a b : List Nat}, DocksL s a → DocksL s b → ∀ r i : Nat, a[r]? = some i → b[r]? = some i := by
    intro a b ha hb r i h
    obtain ⟨h1, h2, h3⟩ := ha.at_ r i h
    have := hb.all i h1 h2
    rwa [h3, Nat.add_sub_cancel_left] at this
  apply List.ext_getElem?
  intro r
  cases h : a[r]? with
  | some i => exact (key ha hb r i h).symm
  | none =>
    cases h' : b[r]? with
    | none => rfl
    | some i => rw [key hb ha r i h'] at h; cases h
theorem DocksL.len {s : ByteArray} {ds : List Nat} (h : DocksL s ds) : ds.length ≤ 8 := by
  rcases Nat.lt_or_ge 8 ds.length with hl | hl
  · obtain ⟨h1, h2, h3⟩ := h.at_ 8 _ (List.getElem?_eq_getElem hl)
    have := kd_dock h2
    unfold kdS at h2
    omega
  · exact hl

/-- Which floors may be. -/
structure RightP (f : Flr) : Prop where
  w1 : 1 ≤ f.W
  w2 : f.W ≤ 16
  h1 : 1 ≤ f.H
  h2 : f.H ≤ 16
  len : (f.s.size : Int) = f.W * f.H
  kinds : ∀ i, i < f.s.size → kdS f.s i ≠ 0
  docks : ∃ ds, DocksL f.s ds
  join : joinedP f.W.toNat f.H.toNat f.s
  by_ : ∀ i, i < f.s.size → kdS f.s i = 3 → ∃ j ∈ besideP f.W.toNat f.H.toNat i, laneI f.s j
open Classical in
noncomputable def rightB (f : Flr) : Bool := decide (RightP f)
open Classical in
theorem rightB_t {f : Flr} (h : RightP f) : rightB f = true := by unfold rightB; exact decide_eq_true h
open Classical in
theorem rightB_f {f : Flr} (h : ¬ RightP f) : rightB f = false := by unfold rightB; exact decide_eq_false h
theorem rightB_iff {f : Flr} : rightB f = true ↔ RightP f := by unfold rightB; simp
end Go.Proofs.YtolkkinophklcaaDoor
