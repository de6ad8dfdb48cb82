/- LinkOnce: what holds of a sender, a receiver and two networks; in numbers and lists. -/
import Derived.Test.YtnejjjoedmefkaaNetT
import Derived.Test.YtnejjjoedmefkaaShn
namespace Go.Proofs.Ytnejjjoedmefkaa
set_option linter.unusedVariables false
set_option linter.unusedSimpArgs false
open Go.RowKit

theorem tell_okO (told : Nat) (d : List Nat) (h : told < 18446744073709551614) (hd : d.length ≤ 200) : tellE told false d = 0 := by
  unfold tellE; rw [if_neg (by decide), if_neg (fun h => by rcases h with h | h <;> omega)]
theorem tell_thereO (told : Nat) (d : List Nat) : tellE told true d = 3 := by unfold tellE; rw [if_pos rfl]
theorem layT_pos (n : Nat) (hn : n < 18446744073709551615) : 0 < (layL true n []).length := by
  unfold layL
  rw [if_pos (lay_t_ok n hn), frameP_len]; omega

/-- How sender, receiver and the packets under way hang together. -/
structure OnP (k n : Nat) (on : Bool) (d : List Nat) (T : List (List Nat)) (H : List (List Nat)) (to fr : List SlH) : Prop where
  len : T.length = n + (if on then 1 else 0)
  dat : on = true → T[n]? = some d
  hn : n ≤ H.length
  hT : H = T.take H.length
  tos : ∀ x ∈ to, ∃ i e, T[i]? = some e ∧ x.b = layL false (i + 1) e
  frs : ∀ x ∈ fr, ∃ j, 1 ≤ j ∧ j ≤ H.length ∧ x.b = layL true j []
  bnd : ∀ e ∈ T, e.length ≤ 200 ∧ ∀ y ∈ e, y < 256
  tl : T.length ≤ k
  tol : to.length ≤ k
  frl : fr.length ≤ k
  k2 : k ≤ 1000

section
variable {k n : Nat} {on : Bool} {d : List Nat} {T H : List (List Nat)} {to fr : List SlH}
theorem OnP.le (P : OnP k n on d T H to fr) : H.length ≤ T.length := by
  have h := congrArg List.length P.hT
  rw [List.length_take] at h; omega
theorem OnP.le1 (P : OnP k n on d T H to fr) : H.length ≤ n + 1 := by
  have h1 := P.le
  have h2 := P.len
  split at h2 <;> omega
theorem OnP.more (P : OnP k n on d T H to fr) (hk : k < 1000) : OnP (k + 1) n on d T H to fr :=
  ⟨P.len, P.dat, P.hn, P.hT, P.tos, P.frs, P.bnd, by have := P.tl; omega, by have := P.tol; omega, by have := P.frl; omega, by omega⟩
theorem OnP.start : OnP 0 0 false [] [] [] [] [] := ⟨rfl, (fun h => by cases h), Nat.le_refl _, rfl, by simp, by simp, by simp, Nat.le_refl _, Nat.le_refl _, Nat.le_refl _, by omega⟩
theorem OnP.tell (P : OnP k n false d T H to fr) (hk : k < 1000) (e : List Nat) (h1 : e.length ≤ 200) (h2 : ∀ y ∈ e, y < 256) : OnP (k + 1) n true e (T ++ [e]) H to fr := by
  have hl : T.length = n := by have := P.len; simpa using this
  have hle := P.le
  refine ⟨by simp [hl], fun _ => by rw [List.getElem?_append_right (by omega), hl]; simp, P.hn, ?_, fun x hx => ?_, P.frs, fun x hx => ?_, by rw [List.length_append]; have := P.tl; simp; omega, by have := P.tol; omega, by have := P.frl; omega, by omega⟩
  · rw [List.take_append_of_le_length hle]; exact P.hT
  · obtain ⟨i, e', h3, h4⟩ := P.tos x hx
    exact ⟨i, e', by rw [List.getElem?_append_left (List.getElem?_eq_some_iff.1 h3).1]; exact h3, h4⟩
  · rcases List.mem_append.1 hx with hx | hx
    · exact P.bnd x hx
    · rw [List.mem_singleton.1 hx]; exact ⟨h1, h2⟩
theorem OnP.send (P : OnP k n true d T H to fr) (hk : k < 1000) (x : SlH) (hx : x.b = layL false (n + 1) d) : OnP (k + 1) n true d T H (to ++ [x]) fr := by
  refine ⟨P.len, P.dat, P.hn, P.hT, fun y hy => ?_, P.frs, P.bnd, by have := P.tl; omega, by rw [List.length_append]; have := P.tol; simp; omega, by have := P.frl; omega, by omega⟩
  rcases List.mem_append.1 hy with hy | hy
  · exact P.tos y hy
  · rw [List.mem_singleton.1 hy]; exact ⟨n, d, P.dat rfl, hx⟩
theorem OnP.sub (P : OnP k n on d T H to fr) {to' fr' : List SlH} (h1 : ∀ x ∈ to', x ∈ to) (h2 : ∀ x ∈ fr', x ∈ fr) (h3 : to'.length ≤ to.length) (h4 : fr'.length ≤ fr.length) : OnP k n on d T H to' fr' :=
  ⟨P.len, P.dat, P.hn, P.hT, fun x hx => P.tos x (h1 x hx), fun x hx => P.frs x (h2 x hx), P.bnd, P.tl, Nat.le_trans h3 P.tol, Nat.le_trans h4 P.frl, P.k2⟩
theorem OnP.smallT (P : OnP k n on d T H to fr) : ∀ x ∈ to, x.b.length ≤ 1000000 := by
  intro x hx
  obtain ⟨i, e, h1, h2⟩ := P.tos x hx
  have hi := (List.getElem?_eq_some_iff.1 h1).1
  have := P.tl
  have := P.k2
  rw [h2]; exact Nat.le_trans (layL_len _ _ _ (by omega)) (by decide)
theorem OnP.smallF (P : OnP k n on d T H to fr) : ∀ x ∈ fr, x.b.length ≤ 1000000 := by
  intro x hx
  obtain ⟨j, h1, h2, h3⟩ := P.frs x hx
  have := P.tl
  have := P.k2
  have := P.le
  rw [h3]; exact Nat.le_trans (layL_len _ _ _ (by omega)) (by decide)
theorem OnP.smallN (P : OnP k n on d T H to fr) : to.length ≤ 1000000 := by have := P.tol; have := P.k2; omega
theorem OnP.smallM (P : OnP k n on d T H to fr) : fr.length ≤ 1000000 := by have := P.frl; have := P.k2; omega
theorem delB_mem {l : List SlH} {x : Int} : (∀ y ∈ delB l x, y ∈ l) ∧ (delB l x).length ≤ l.length := by
  unfold delB
  split
  · exact ⟨fun y hy => List.mem_of_mem_eraseIdx hy, List.length_eraseIdx_le _ _⟩
  · exact ⟨fun y hy => hy, Nat.le_refl _⟩
theorem atB_mem {l : List SlH} {x : Int} (h : hasB l.length x = true) : ∃ y ∈ l, atB l x = y.b := by
  obtain ⟨i, rfl, hi⟩ := hasB_nat h
  refine ⟨l[i], List.getElem_mem hi, ?_⟩
  unfold atB
  rw [if_pos h]; simp [hi]

/-- A packet of the sender's comes. -/
structure ComeP (T H : List (List Nat)) (F : List Nat) (i : Nat) (e : List Nat) : Prop where
  ack : ackB H.length F = true
  fresh : freshB H.length F = decide (i = H.length)
  num : tkN F = i + 1
  dat : tkD F = e
  nxt : nxt H.length = H.length + 1
theorem OnP.come (P : OnP k n on d T H to fr) {F : List Nat} {i : Nat} {e : List Nat} (h1 : T[i]? = some e) (h2 : F = layL false (i + 1) e) : ComeP T H F i e := by
  have hi := (List.getElem?_eq_some_iff.1 h1).1
  have hb := P.bnd e (List.mem_of_getElem? h1)
  have hl := P.le
  have hl1 := P.tl
  have hk := P.k2
  have hn : nxt H.length = H.length + 1 := by unfold nxt; omega
  obtain ⟨q1, q2, q3, q4⟩ := ack_laid H.length (i + 1) e (by omega) hb.1 hb.2
  subst h2
  have hT1 : T.length ≤ H.length + 1 := by
    have h2 := P.len
    have h3 := P.hn
    split at h2 <;> omega
  refine ⟨?_, ?_, q3, q4, hn⟩
  · rw [q1, hn]; simp; omega
  · rw [q2, hn]
    by_cases z : i = H.length
    · simp [z]
    · simp [z]
theorem OnP.fresh (P : OnP k n on d T H to fr) (hk : k < 1000) {e : List Nat} (h1 : T[H.length]? = some e) (y : SlH) (hy : y.b = layL true (H.length + 1) []) : OnP (k + 1) n on d T (H ++ [e]) to (fr ++ [y]) := by
  have hi := (List.getElem?_eq_some_iff.1 h1).1
  have hl : (H ++ [e]).length = H.length + 1 := by simp
  refine ⟨P.len, P.dat, by rw [hl]; have := P.hn; omega, ?_, P.tos, fun x hx => ?_, P.bnd, by have := P.tl; omega, by have := P.tol; omega, by rw [List.length_append]; have := P.frl; simp; omega, by omega⟩
  · rw [hl, List.take_add_one, ← P.hT, h1]; rfl
  · rw [hl]
    rcases List.mem_append.1 hx with hx | hx
    · obtain ⟨j, a, b, c⟩ := P.frs x hx
      exact ⟨j, a, by omega, c⟩
    · rw [List.mem_singleton.1 hx]; exact ⟨H.length + 1, by omega, by omega, hy⟩
theorem OnP.again (P : OnP k n on d T H to fr) (hk : k < 1000) {i : Nat} {e : List Nat} (h1 : T[i]? = some e) (h2 : i ≠ H.length) (y : SlH) (hy : y.b = layL true (i + 1) []) : OnP (k + 1) n on d T H to (fr ++ [y]) := by
  have hi := (List.getElem?_eq_some_iff.1 h1).1
  have hT1 : T.length ≤ H.length + 1 := by
    have h2 := P.len
    have h3 := P.hn
    split at h2 <;> omega
  refine ⟨P.len, P.dat, P.hn, P.hT, P.tos, fun x hx => ?_, P.bnd, by have := P.tl; omega, by have := P.tol; omega, by rw [List.length_append]; have := P.frl; simp; omega, by omega⟩
  rcases List.mem_append.1 hx with hx | hx
  · exact P.frs x hx
  · rw [List.mem_singleton.1 hx]; exact ⟨i + 1, by omega, by omega, hy⟩
theorem OnP.back (P : OnP k n on d T H to fr) {F : List Nat} {j : Nat} (h1 : 1 ≤ j) (h2 : j ≤ H.length) (h3 : F = layL true j []) :
    OnP k (if heardB n on F then n + 1 else n) (on && !heardB n on F) (if heardB n on F then [] else d) T H to fr := by
  have hk := P.k2
  have hl := P.le
  have ht := P.tl
  have hh : heardB n on F = (on && decide (j = n + 1)) := by rw [h3]; exact heard_laid n j on (by omega)
  rw [hh]
  cases on
  · simpa using P
  · by_cases e : j = n + 1
    · subst e
      have hlen := P.len
      refine ⟨by simpa using hlen, by simp, ?_, P.hT, P.tos, P.frs, P.bnd, P.tl, P.tol, P.frl, P.k2⟩
      simpa using h2
    · simpa [e] using P
end
end Go.Proofs.Ytnejjjoedmefkaa
