/- Floors, plain: a search through the lanes. No function of the program. -/
import Derived.Test.YtolkkinophklcaaDoorFlC
namespace Go.Proofs.YtolkkinophklcaaDoor
set_option linter.unusedVariables false
set_option linter.unusedSimpArgs false
open Go.RowKit

def lanesTo (s : ByteArray) (k : Nat) : List Nat := (List.range k).filter fun i => kdS s i == 2
theorem lanesTo_in {s : ByteArray} {k : Nat} (h : kdS s k = 2) : lanesTo s (k + 1) = lanesTo s k ++ [k] := by
  unfold lanesTo; rw [List.range_succ, List.filter_append]; simp [h]
theorem lanesTo_out {s : ByteArray} {k : Nat} (h : kdS s k ≠ 2) : lanesTo s (k + 1) = lanesTo s k := by
  unfold lanesTo; rw [List.range_succ, List.filter_append]; simp [h]
theorem lanesTo_mem {s : ByteArray} {k i : Nat} : i ∈ lanesTo s k ↔ i < k ∧ kdS s i = 2 := by unfold lanesTo; simp
theorem lanesTo_len (s : ByteArray) (k : Nat) : (lanesTo s k).length ≤ k := by unfold lanesTo; exact Nat.le_trans (List.length_filter_le _ _) (by simp)

/-- What the search knows: L: lanes that were not met; N: lanes that were met, and are to be looked at. -/
structure Dfs (W H : Nat) (s : ByteArray) (l : Nat) (L N : List Nat) : Prop where
  lane : ∀ i ∈ L, laneI s i
  conn : ∀ i, laneI s i → i ∉ L → Conn W H s l i
  next : ∀ i ∈ N, laneI s i ∧ i ∉ L
  shut : ∀ i, laneI s i → i ∉ L → i ∈ N ∨ ∀ k ∈ besideP W H i, laneI s k → k ∉ L
  first : laneI s l ∧ l ∉ L
/-- While a lane's neighbours are looked at. -/
structure DfsI (W H : Nat) (s : ByteArray) (l c j : Nat) (L N : List Nat) : Prop where
  lane : ∀ i ∈ L, laneI s i
  conn : ∀ i, laneI s i → i ∉ L → Conn W H s l i
  next : ∀ i ∈ N, laneI s i ∧ i ∉ L
  shut : ∀ i, laneI s i → i ∉ L → i ∈ N ∨ i = c ∨ ∀ k ∈ besideP W H i, laneI s k → k ∉ L
  first : laneI s l ∧ l ∉ L
  cell : laneI s c ∧ c ∉ L
  part : ∀ k ∈ (besideP W H c).take j, k ∉ L
section
variable {W H l c j : Nat} {s : ByteArray} {L N : List Nat}
theorem Dfs.pop (h : Dfs W H s l L (N ++ [c])) : DfsI W H s l c 0 L N :=
  ⟨h.lane, h.conn, fun i hi => h.next i (List.mem_append_left _ hi), fun i h1 h2 => by
    rcases h.shut i h1 h2 with h3 | h3
    · rcases List.mem_append.1 h3 with h3 | h3
      · exact .inl h3
      · exact .inr (.inl (List.mem_singleton.1 h3))
    · exact .inr (.inr h3), h.first, h.next c (by simp), fun k hk => by simp at hk⟩
theorem DfsI.seen (h : DfsI W H s l c j L N) {b : Nat} (hb : (besideP W H c)[j]? = some b) (hn : b ∉ L) : DfsI W H s l c (j + 1) L N :=
  ⟨h.lane, h.conn, h.next, h.shut, h.first, h.cell, fun k hk => by
      rw [List.take_add_one, hb] at hk
      rcases List.mem_append.1 hk with hk | hk
      · exact h.part k hk
      · simp at hk; subst hk; exact hn⟩
theorem DfsI.meet (h : DfsI W H s l c j L N) {b : Nat} (hb : (besideP W H c)[j]? = some b) (hn : b ∈ L) : DfsI W H s l c (j + 1) (L.filter fun x => x != b) (N ++ [b]) := by
  have hm : ∀ i, i ∉ L.filter (fun x => x != b) → i ∉ L ∨ i = b := by
    intro i hi
    by_cases e : i = b
    · exact .inr e
    · exact .inl fun h2 => hi (List.mem_filter.2 ⟨h2, by simp [e]⟩)
  have hs : ∀ i, i ∉ L → i ∉ L.filter (fun x => x != b) := fun i hi h2 => hi (List.mem_filter.1 h2).1
  have hbb : b ∉ L.filter (fun x => x != b) := fun h2 => by have := (List.mem_filter.1 h2).2; simp at this
  refine ⟨fun i hi => h.lane i (List.mem_filter.1 hi).1, fun i h1 h2 => ?_, fun i hi => ?_, fun i h1 h2 => ?_, ⟨h.first.1, hs _ h.first.2⟩, ⟨h.cell.1, hs _ h.cell.2⟩, fun k hk => ?_⟩
  · rcases hm i h2 with h3 | rfl
    · exact h.conn i h1 h3
    · exact .step (h.conn c h.cell.1 h.cell.2) (List.mem_of_getElem? hb) h1
  · rcases List.mem_append.1 hi with hi | hi
    · exact ⟨(h.next i hi).1, hs _ (h.next i hi).2⟩
    · obtain rfl := List.mem_singleton.1 hi
      exact ⟨h.lane _ hn, hbb⟩
  · rcases hm i h2 with h3 | rfl
    · rcases h.shut i h1 h3 with h4 | h4 | h4
      · exact .inl (List.mem_append_left _ h4)
      · exact .inr (.inl h4)
      · exact .inr (.inr fun k hk hl => hs _ (h4 k hk hl))
    · exact .inl (by simp)
  · rw [List.take_add_one, hb] at hk
    rcases List.mem_append.1 hk with hk | hk
    · exact hs _ (h.part k hk)
    · simp at hk; subst hk; exact hbb
theorem DfsI.done (h : DfsI W H s l c (besideP W H c).length L N) : Dfs W H s l L N :=
  ⟨h.lane, h.conn, h.next, fun i h1 h2 => by
    rcases h.shut i h1 h2 with h3 | rfl | h3
    · exact .inl h3
    · exact .inr fun k hk _ => h.part k (by rw [List.take_length]; exact hk)
    · exact .inr h3, h.first⟩
theorem Dfs.end_ (h : Dfs W H s l L []) (hW : 1 ≤ W) (hs : s.size = W * H) : L = [] ↔ joinedP W H s := by
  rw [joined_one hW hs h.first.1]
  constructor
  · rintro rfl j hj
    exact h.conn j hj (by simp)
  · intro hc
    rcases L with _ | ⟨x, xs⟩
    · rfl
    · exfalso
      have hx := h.lane x (by simp)
      have := (hc x hx).closed (p := fun i => laneI s i ∧ i ∉ x :: xs) h.first fun j k hj hk hl => by
        rcases h.shut j hj.1 hj.2 with h3 | h3
        · simp at h3
        · exact ⟨hl, h3 k hk hl⟩
      exact this.2 (by simp)
theorem Dfs.start (hl : laneI s l) : Dfs W H s l ((lanesTo s s.size).filter fun x => x != l) [l] := by
  have hm : ∀ i, laneI s i → i ∉ (lanesTo s s.size).filter (fun x => x != l) → i = l := by
    intro i hi hn
    by_cases e : i = l
    · exact e
    · exact absurd (List.mem_filter.2 ⟨lanesTo_mem.2 hi, by simp [e]⟩) hn
  have hln : l ∉ (lanesTo s s.size).filter fun x => x != l := fun h2 => by have := (List.mem_filter.1 h2).2; simp at this
  refine ⟨fun i hi => lanesTo_mem.1 (List.mem_filter.1 hi).1, fun i h1 h2 => ?_, fun i hi => ?_, fun i h1 h2 => ?_, hl, hln⟩
  · rw [hm i h1 h2]; exact .refl
  · rw [List.mem_singleton.1 hi]; exact ⟨hl, hln⟩
  · rw [hm i h1 h2]; exact .inl (by simp)
theorem filter_ne_lt {L : List Nat} {b : Nat} (h : b ∈ L) : (L.filter fun x => x != b).length + 1 ≤ L.length := by
  have := List.length_filter_lt_length_iff_exists (p := fun x => x != b) (l := L) |>.2 ⟨b, h, by simp⟩
  omega
end
end Go.Proofs.YtolkkinophklcaaDoor
