/- FloorReached, plain: from a dock all lanes are met. No function of the program. -/
import Derived.Test.YtolkkinophklcaaDoorFlSh
namespace Go.Proofs.YtolkkinophklcaaDoor
set_option linter.unusedVariables false
set_option linter.unusedSimpArgs false
open Go.RowKit

theorem nodup_len : ∀ (n : Nat) (L : List Nat), L.Nodup → (∀ x ∈ L, x < n) → L.length ≤ n := by
  intro n
  induction n with
  | zero =>
    intro L _ h
    rcases L with _ | ⟨x, L⟩
    · simp
    · exact absurd (h x (by simp)) (by omega)
  | succ n ih =>
    intro L hn h
    by_cases hm : n ∈ L
    · have h2 := ih (L.erase n) (hn.erase n) (fun x hx => by
        have h3 := (hn.mem_erase_iff).1 hx
        have := h x h3.2
        have := h3.1
        omega)
      rw [List.length_erase_of_mem hm] at h2
      omega
    · have := ih L hn (fun x hx => by
        have := h x hx
        have : x ≠ n := fun e => hm (e ▸ hx)
        omega)
      omega
structure Bfs (f : Flr) (d : Nat) (L : List Nat) (i : Nat) : Prop where
  nd : L.Nodup
  fst : L[0]? = some d
  lane : ∀ x ∈ L, x = d ∨ laneI f.s x
  cl : ∀ a, a < i → ∀ x, L[a]? = some x → ∀ k ∈ nearP f x, laneI f.s k → k ∈ L
structure BfsJ (f : Flr) (d : Nat) (L : List Nat) (i x j : Nat) : Prop where
  b : Bfs f d L i
  at_ : L[i]? = some x
  part : ∀ k ∈ (nearP f x).take j, laneI f.s k → k ∈ L
section
variable {f : Flr} {d i x j c : Nat} {L : List Nat}
theorem Bfs.start (d : Nat) : Bfs f d [d] 0 := ⟨by simp, rfl, fun x hx => .inl (by simpa using hx), fun a ha => by omega⟩
theorem Bfs.into (h : Bfs f d L i) (hx : L[i]? = some x) : BfsJ f d L i x 0 := ⟨h, hx, fun k hk => by simp at hk⟩
theorem BfsJ.skip (h : BfsJ f d L i x j) (hc : (nearP f x)[j]? = some c) (hk : laneI f.s c → c ∈ L) : BfsJ f d L i x (j + 1) :=
  ⟨h.b, h.at_, fun k hk2 => by
    rw [List.take_add_one, hc] at hk2
    rcases List.mem_append.1 hk2 with h2 | h2
    · exact h.part k h2
    · simp at h2; subst h2; exact hk⟩
theorem BfsJ.put (h : BfsJ f d L i x j) (hc : (nearP f x)[j]? = some c) (hl : laneI f.s c) (hn : c ∉ L) : BfsJ f d (L ++ [c]) i x (j + 1) := by
  have hlen : ∀ a y, L[a]? = some y → (L ++ [c])[a]? = some y := fun a y ha => by rw [List.getElem?_append_left (List.getElem?_eq_some_iff.1 ha).1]; exact ha
  have hlt : i < L.length := (List.getElem?_eq_some_iff.1 h.at_).1
  refine ⟨⟨?_, hlen _ _ h.b.fst, fun y hy => ?_, fun a ha y hy k hk hl2 => ?_⟩, hlen _ _ h.at_, fun k hk hl2 => ?_⟩
  · rw [List.nodup_append]
    refine ⟨h.b.nd, by simp, fun a ha b hb e => ?_⟩
    rw [List.mem_singleton] at hb; subst hb; subst e; exact hn ha
  · rcases List.mem_append.1 hy with hy | hy
    · exact h.b.lane y hy
    · rw [List.mem_singleton.1 hy]; exact .inr hl
  · rw [List.getElem?_append_left (by omega)] at hy
    exact List.mem_append_left _ (h.b.cl a ha y hy k hk hl2)
  · rw [List.take_add_one, hc] at hk
    rcases List.mem_append.1 hk with h2 | h2
    · exact List.mem_append_left _ (h.part k h2 hl2)
    · simp at h2; subst h2; simp
theorem BfsJ.done (h : BfsJ f d L i x (nearP f x).length) : Bfs f d L (i + 1) :=
  ⟨h.b.nd, h.b.fst, h.b.lane, fun a ha y hy k hk hl => by
    rcases Nat.lt_or_ge a i with h1 | h1
    · exact h.b.cl a h1 y hy k hk hl
    · obtain rfl : a = i := by omega
      rw [h.at_] at hy; cases hy
      exact h.part k (by rw [List.take_length]; exact hk) hl⟩
theorem Bfs.len (h : Bfs f d L i) (hd : d < f.s.size) : L.length ≤ f.s.size := nodup_len _ L h.nd fun x hx => by
  rcases h.lane x hx with rfl | h
  · exact hd
  · exact h.1
theorem near_iff {f : Flr} {x y : Nat} (r : RightP f) (hx : x < f.s.size) : y ∈ nearP f x ↔ kdS f.s x ≠ 1 ∧ y ∈ besideP f.W.toNat f.H.toNat x ∧ kdS f.s y ≠ 1 := by
  have hk := right_kdP r hx
  by_cases h1 : kdS f.s x = 1
  · have : nearP f x = [] := by
      unfold nearP
      rw [if_neg]
      rintro (h | h) <;> (have := (isB_iff.1 h).2.2.1; simp at this; omega)
    rw [this]; simp [h1]
  · have hW := Int.toNat_of_nonneg (show 0 ≤ f.W from by have := r.w1; omega)
    have hH := Int.toNat_of_nonneg (show 0 ≤ f.H from by have := r.h1; omega)
    rw [nearP_at (W := f.W.toNat) (H := f.H.toNat) (rightB_t r) hx hW.symm hH.symm (by omega), List.mem_filter]
    simp [h1]
theorem Bfs.all (h : Bfs f d L i) (hi : L.length ≤ i) (r : RightP f) (hd : d < f.s.size) (hk : kdS f.s d = 3) (y : Nat) (hy : laneI f.s y) : y ∈ L := by
  have hcl : ∀ x ∈ L, ∀ k ∈ nearP f x, laneI f.s k → k ∈ L := fun x hx k hk hl => by
    obtain ⟨a, ha⟩ := List.getElem?_of_mem hx
    exact h.cl a (by have := (List.getElem?_eq_some_iff.1 ha).1; omega) x ha k hk hl
  have hdL : d ∈ L := List.mem_of_getElem? h.fst
  obtain ⟨l, hl1, hl2⟩ := r.by_ d hd hk
  have hlL : l ∈ L := hcl d hdL l ((near_iff r hd).2 ⟨by omega, hl1, by rw [hl2.2]; decide⟩) hl2
  have := (r.join.2 l y hl2 hy).closed (p := fun j => j ∈ L ∧ laneI f.s j) ⟨hlL, hl2⟩ fun j k hj hk hl => ⟨hcl j hj.1 k ((near_iff r hj.2.1).2 ⟨by rw [hj.2.2]; decide, hk, by rw [hl.2]; decide⟩) hl, hl⟩
  exact this.1
theorem zone_isSome {f : Flr} {c : Nat} (hb : rightB f = true) (hc : c < f.s.size) : (zoneP f c).isSome = (kdS f.s c == 2) := by
  unfold zoneP
  by_cases h : kdS f.s c = 2
  · rw [if_pos (isB_iff.2 ⟨by omega, by omega, by simp [h], rightB_iff.1 hb⟩)]; simp [h]
  · rw [if_neg (fun h2 => by have := (isB_iff.1 h2).2.2.1; simp at this; omega)]; simp [h]
theorem robots_pos {f : Flr} (r : RightP f) : 0 < robotsP f ∧ robotsP f ≤ 8 ∧ ∀ k : Nat, k < robotsP f → ∃ d : Nat, dockP f k = some d ∧ d < f.s.size ∧ kdS f.s d = 3 ∧ bt f.s d = 48 + k := by
  obtain ⟨ds, hd⟩ := r.docks
  have hn : robotsP f = ds.length := by unfold robotsP; rw [if_pos (rightB_t r)]; exact hd.count.symm
  refine ⟨?_, ?_, fun k hk => ?_⟩
  · rw [hn]; exact List.length_pos_iff.2 hd.ne
  · rw [hn]; exact hd.len
  · rw [hn] at hk
    obtain ⟨h1, h2, h3⟩ := hd.at_ k _ (List.getElem?_eq_getElem hk)
    refine ⟨ds[k], ?_, h1, h2, h3⟩
    unfold dockP
    rw [if_pos ⟨rightB_t r, by omega⟩, Int.toNat_natCast, hd.find, List.getElem?_eq_getElem hk]
theorem lanes_pos {f : Flr} (r : RightP f) : 0 < (lanesP f).length ∧ (lanesP f).length ≤ 256 := by
  unfold lanesP
  rw [if_pos (rightB_t r)]
  obtain ⟨l, hl⟩ := r.join.1
  exact ⟨List.length_pos_of_mem (lanesTo_mem.2 hl), Nat.le_trans (lanesTo_len _ _) r.s256⟩
theorem lanes_mem {f : Flr} (r : RightP f) {y : Nat} : y ∈ lanesP f ↔ laneI f.s y := by
  unfold lanesP
  rw [if_pos (rightB_t r)]
  exact lanesTo_mem
theorem near_size {f : Flr} (r : RightP f) {x y : Nat} (hx : x < f.s.size) (h : y ∈ nearP f x) : y < f.s.size := by
  have hW1 : 1 ≤ f.W.toNat := by have := r.w1; omega
  have hs : f.s.size = f.W.toNat * f.H.toNat := by
    have hW := Int.toNat_of_nonneg (show 0 ≤ f.W from by have := r.w1; omega)
    have hH := Int.toNat_of_nonneg (show 0 ≤ f.H from by have := r.h1; omega)
    have := r.len
    rw [← hW, ← hH] at this
    exact_mod_cast this
  rw [hs]
  exact beside_lt hW1 (by rw [← hs]; exact hx) ((near_iff r hx).1 h).2.1
end
end Go.Proofs.YtolkkinophklcaaDoor
