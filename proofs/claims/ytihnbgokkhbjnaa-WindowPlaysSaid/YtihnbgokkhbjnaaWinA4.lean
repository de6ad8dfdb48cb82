/- slices.Index at windows. -/
import Derived.Test.YtihnbgokkhbjnaaWinA3
namespace Go.Proofs.Ytihnbgokkhbjnaa
set_option linter.unusedVariables false
set_option linter.unusedSimpArgs false
open Go.RowKit

def idxW (l : List (Int × Int)) (x : Int × Int) : Int := if x ∈ l then (l.idxOf x : Int) else -1

theorem idxW_at (l : List (Int × Int)) (x : Int × Int) (k : Nat) (h1 : l[k]? = some x) (h2 : ∀ j, j < k → l[j]? ≠ some x) : idxW l x = k := by
  unfold idxW
  rw [if_pos (List.mem_of_getElem? h1)]
  congr 1
  induction l generalizing k with
  | nil => simp at h1
  | cons y l ih =>
    cases k with
    | zero => simp at h1; simp [h1]
    | succ k =>
      have h0 : y ≠ x := fun e => h2 0 (by omega) (by simp [e])
      rw [List.idxOf_cons, beq_false_of_ne h0, cond_false, ih k (by simpa using h1) (fun j hj => by have := h2 (j + 1) (by omega); simpa using this)]

theorem idxW_none (l : List (Int × Int)) (x : Int × Int) (h2 : ∀ j : Nat, j < l.length → l[j]? ≠ some x) : idxW l x = -1 := by
  unfold idxW
  rw [if_neg]
  intro h
  obtain ⟨j, hj, e⟩ := List.getElem_of_mem h
  exact h2 j hj (by rw [List.getElem?_eq_getElem hj, e])

theorem index_any (v : Value) (l : List (Int × Int)) (x : Int × Int) (w : World) (h : Rd WK w v l) (hl : l.length ≤ 1000000) :
    Calls Try.prog 32 #[v, .agg #[.int .i64 x.1, .int .i64 x.2]] w fun e w' => e = .returned (.int .i64 (idxW l x)) ∧ Kp No w w' := by
  obtain ⟨A, cap, rfl⟩ := h.shape
  go_enter Try.func32, Try.ntmps32
  go_wp2
  go_loopw [5, 8] (fun _ i wr => ∃ k : Nat, i = .int .i64 k ∧ k ≤ l.length ∧ (∀ j : Nat, j < k → l[j]? ≠ some x) ∧ Kp No w wr ∧ wr.cell? ⟨w.heap.size, 0, none⟩ = some (.int .i64 x.1) ∧ wr.cell? ⟨w.heap.size, 1, none⟩ = some (.int .i64 x.2)) (fun _ i _ => l.length - (intOf i).toNat)
  case atStart => exact ⟨0, rfl, by omega, by intros; omega, (Kp.refl _ _).alloc _, by simp, by simp⟩
  case round =>
    obtain ⟨k, rfl, hk, hne, hK, hx1, hx2⟩ := hrel
    by_cases hlt : k < l.length
    · obtain ⟨y, hy⟩ : ∃ y, l[k]? = some y := ⟨_, List.getElem?_eq_getElem hlt⟩
      rcases h with ⟨hv, rfl⟩ | ⟨g, o, cap', hv, h1, h2, h3⟩
      · simp at hlt
      · have hrd : Rd WK w (.slice A l.length cap) l := .inr ⟨g, o, cap', hv, h1, h2, h3⟩
        simp only [Value.slice.injEq, true_and] at hv
        obtain ⟨rfl, rfl⟩ := hv
        obtain ⟨hc1, hc2⟩ := (hrd.kpNo hK).winAt hy
        have HN := Lib.hid hne
        clear h3 hrd hne
        by_cases he : x = y
        · subst he
          have HI := Lib.hid (idxW_at l x k hy HN.out)
          have hq := eqlW x x true (by simp)
          clear hy
          go_wp2
          go_quiet (fail)
          go_wp2
          go_ret
          exact ⟨by rw [HI.out]; rfl, hK.drewN _⟩
        · have hq := eqlW x y false (by simp [he])
          have HY := Lib.hid hy
          clear hy
          go_wp2
          go_quiet (fail)
          go_wp2
          go_roundw
          case rel =>
            refine ⟨k + 1, by go_num, hlt, ?_, hK.drewN _, hx1, hx2⟩
            intro j hj
            by_cases hjk : j = k
            · subst hjk; rw [HY.out]; simp; exact fun e => he e.symm
            · exact HN.out j (by omega)
          case measure => simp [intOf]; omega
    · obtain rfl : k = l.length := by omega
      have HN := Lib.hid (idxW_none l x hne)
      clear h hne
      go_wp2
      go_ret
      exact ⟨by rw [HN.out]; rfl, hK⟩
end Go.Proofs.Ytihnbgokkhbjnaa
