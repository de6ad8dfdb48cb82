/- Floors, plain: which lanes can be reached, by rounds. No function of the program. -/
import Derived.Test.YtolkkinophklcaaDoorFlC
namespace Go.Proofs.YtolkkinophklcaaDoor
set_option linter.unusedVariables false
set_option linter.unusedSimpArgs false
open Go.RowKit

def offs (on : List Bool) : Nat := (on.filter fun x => !x).length
theorem offs_cons (y : Bool) (ys : List Bool) : offs (y :: ys) = (if y = true then 0 else 1) + offs ys := by
  unfold offs; cases y
  · simp; omega
  · simp
theorem offs_set : ∀ (on : List Bool) (i : Nat), on[i]? = some false → offs (on.set i true) + 1 = offs on := by
  intro on
  induction on with
  | nil => intro i h; simp at h
  | cons y ys ih =>
    intro i h
    rcases i with _ | i
    · simp at h; subst h; rw [List.set_cons_zero, offs_cons, offs_cons]; simp; omega
    · rw [List.getElem?_cons_succ] at h
      have := ih i h
      rw [List.set_cons_succ, offs_cons, offs_cons]; omega
structure RchI (W H : Nat) (s : ByteArray) (fr : Nat) (on : List Bool) : Prop where
  len : on.length = s.size
  at_ : on[fr]? = some true
  snd : ∀ i : Nat, on[i]? = some true → Conn W H s fr i
def RchC (W H : Nat) (s : ByteArray) (on : List Bool) (i : Nat) : Prop := ∀ a : Nat, a < i → on[a]? = some true → ∀ k ∈ besideP W H a, laneI s k → on[k]? = some true
def RchD (W H : Nat) (s : ByteArray) (on : List Bool) (i j : Nat) : Prop := ∀ k ∈ (besideP W H i).take j, laneI s k → on[k]? = some true
section
variable {W H fr i j b : Nat} {s : ByteArray} {on : List Bool}
theorem RchI.start (hf : fr < s.size) : RchI W H s fr ((List.replicate s.size false).set fr true) := by
  refine ⟨by simp, by rw [List.getElem?_set_self (by simpa using hf)], fun i hi => ?_⟩
  rw [List.getElem?_set] at hi
  split at hi
  · rename_i h; subst h; exact .refl
  · rw [List.getElem?_replicate] at hi; split at hi <;> simp at hi
theorem RchI.put (h : RchI W H s fr on) (hi : on[i]? = some true) (hb : (besideP W H i)[j]? = some b) (hl : laneI s b) (hn : on[b]? = some false) : RchI W H s fr (on.set b true) := by
  have hbl : b < on.length := (List.getElem?_eq_some_iff.1 hn).1
  refine ⟨by rw [List.length_set]; exact h.len, ?_, fun k hk => ?_⟩
  · rw [List.getElem?_set]
    split
    · rfl
    · exact h.at_
  · rw [List.getElem?_set] at hk
    split at hk
    · rename_i e; subst e; exact .step (h.snd i hi) (List.mem_of_getElem? hb) hl
    · exact h.snd k hk
theorem RchD.zero : RchD W H s on i 0 := fun k hk => by simp at hk
theorem RchD.step (h : RchD W H s on i j) (hb : (besideP W H i)[j]? = some b) (hl : laneI s b → on[b]? = some true) : RchD W H s on i (j + 1) := by
  intro k hk
  rw [List.take_add_one, hb] at hk
  rcases List.mem_append.1 hk with hk | hk
  · exact h k hk
  · simp at hk; subst hk; exact hl
theorem RchC.zero : RchC W H s on 0 := fun a ha => by omega
theorem RchC.off (h : RchC W H s on i) (hi : on[i]? = some false) : RchC W H s on (i + 1) := by
  intro a ha h2
  rcases Nat.lt_or_ge a i with h3 | h3
  · exact h a h3 h2
  · obtain rfl : a = i := by omega
    rw [hi] at h2; simp at h2
theorem RchC.onn (h : RchC W H s on i) (hd : RchD W H s on i (besideP W H i).length) : RchC W H s on (i + 1) := by
  intro a ha h2
  rcases Nat.lt_or_ge a i with h3 | h3
  · exact h a h3 h2
  · obtain rfl : a = i := by omega
    intro k hk; exact hd k (by rw [List.take_length]; exact hk)
theorem RchI.done (h : RchI W H s fr on) (hc : RchC W H s on s.size) (i : Nat) : laneI s i → (on[i]? = some true ↔ Conn W H s fr i) := fun _ =>
  ⟨h.snd i, fun hq => hq.closed (p := fun i => on[i]? = some true) h.at_ fun a k ha hk hl => hc a (by rw [← h.len]; exact (List.getElem?_eq_some_iff.1 ha).1) ha k hk hl⟩
end
end Go.Proofs.YtolkkinophklcaaDoor
