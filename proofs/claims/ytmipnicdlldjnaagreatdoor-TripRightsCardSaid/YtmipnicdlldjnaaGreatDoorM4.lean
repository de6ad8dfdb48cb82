/- path, plain: the search by the heap. No function of the program; Heaps in memory; heap: swap, up; heap: up, Push; The step law of append, for a region that draws its order; heap.Push; heap: down; heap: New, Len, Peek, Pop; heap.Pop; math/bits.Mul by one; slices.Repeat of one int; path: what a search holds in memory; path: (*plan).dist; path.Dist. No condition. -/
import Derived.Test.YtmipnicdlldjnaaGreatDoorM3
import Derived.Test.YtmipnicdlldjnaaGreatDoorM1
import Derived.BigRegion
import Derived.ChangeAlike
import Derived.Deep.RegionHeld3
import Derived.Deep.LoopGhost
import Derived.Deep.RegionLaw
import Derived.Deep.CutBlock
import Derived.Deep.DeepCutAuto
import Derived.Deep.Cut
import Derived.Deep.CutRange
import Derived.StillTailTactics

namespace Go.Proofs.YtmipnicdlldjnaaGreatDoor
set_option linter.unusedVariables false
set_option linter.unusedSimpArgs false
open Go.RowKit

/-- A walk of k steps. -/
inductive Wk (st : Nat → List Nat) (s : Nat) : Nat → Nat → Prop where
  | nil : Wk st s 0 s
  | step {k a c : Nat} : Wk st s k a → c ∈ st a → Wk st s (k + 1) c
/-- d is how far c is. -/
def IsD (st : Nat → List Nat) (s c : Nat) (d : Int) : Prop := (d = -1 ∧ ∀ k, ¬ Wk st s k c) ∨ ∃ k : Nat, d = k ∧ Wk st s k c ∧ ∀ k', Wk st s k' c → k ≤ k'
theorem IsD.uniq {st : Nat → List Nat} {s c : Nat} {d e : Int} (h : IsD st s c d) (g : IsD st s c e) : d = e := by
  rcases h with ⟨rfl, h⟩ | ⟨k, rfl, h1, h2⟩ <;> rcases g with ⟨rfl, g⟩ | ⟨j, rfl, g1, g2⟩
  · rfl
  · exact absurd g1 (h _)
  · exact absurd h1 (g _)
  · have := h2 _ g1; have := g2 _ h1; omega
def inP (P : List (Nat × Nat)) (i c : Nat) : Prop := ∃ j k, j < i ∧ P[j]? = some (k, c)
structure BfI (st : Nat → List Nat) (s n t : Nat) (D By : List Int) (P : List (Nat × Nat)) : Prop where
  lenD : D.length = n
  lenB : By.length = n
  z : P[0]? = some (0, s)
  q : ∀ (i k c : Nat), P[i]? = some (k, c) → c < n ∧ D[c]? = some (k : Int) ∧ Wk st s k c
  inj : ∀ (i j k l c : Nat), P[i]? = some (k, c) → P[j]? = some (l, c) → i = j
  on : ∀ (c : Nat) d, D[c]? = some d → (d = -1 ∨ ∃ i k : Nat, P[i]? = some (k, c))
  mono : ∀ (i j k l c e : Nat), i ≤ j → P[i]? = some (k, c) → P[j]? = some (l, e) → k ≤ l
  span : ∀ (i j k l c e : Nat), t ≤ i → P[i]? = some (k, c) → P[j]? = some (l, e) → l ≤ k + 1
  cl : ∀ (j k u : Nat), j < t → P[j]? = some (k, u) → ∀ c ∈ st u, ∃ i k' : Nat, P[i]? = some (k', c) ∧ k' ≤ k + 1
  by_ : ∀ (i k c : Nat), 0 < i → P[i]? = some (k, c) → ∃ j l u m : Nat, j < i ∧ P[j]? = some (l, u) ∧ k = l + 1 ∧ (st u)[m]? = some c ∧ By[c]? = some (u : Int) ∧ (∀ m' c', m' < m → (st u)[m']? = some c' → inP P i c') ∧ (∀ j' l' u', j' < j → P[j']? = some (l', u') → ∀ c' ∈ st u', inP P i c')
structure BfK (st : Nat → List Nat) (s n t m kx x : Nat) (D By : List Int) (P : List (Nat × Nat)) : Prop where
  b : BfI st s n t D By P
  at_ : P[t]? = some (kx, x)
  part : ∀ c ∈ (st x).take m, ∃ i k' : Nat, P[i]? = some (k', c) ∧ k' ≤ kx + 1
section
variable {st : Nat → List Nat} {s n t m kx x c : Nat} {D By : List Int} {P : List (Nat × Nat)}
theorem BfI.start (hs : s < n) : BfI st s n 0 ((List.replicate n (-1 : Int)).set s 0) (List.replicate n (-1 : Int)) [(0, s)] := by
  have one : ∀ (i : Nat) (y : Nat × Nat), [(0, s)][i]? = some y → i = 0 ∧ y = (0, s) := fun i y h => by
    cases i with
    | zero => simp at h; exact ⟨rfl, h.symm⟩
    | succ i => simp at h
  refine ⟨by simp, by simp, rfl, fun i k c h => ?_, fun i j k l c h1 h2 => ?_, fun c d h => ?_, fun i j k l c e _ h1 h2 => ?_, fun i j k l c e _ h1 h2 => ?_, fun j k u hj => by omega, fun i k c hi h => ?_⟩
  · obtain ⟨rfl, e⟩ := one _ _ h
    simp at e; obtain ⟨rfl, rfl⟩ := e
    exact ⟨hs, by simp [hs], .nil⟩
  · have := (one _ _ h1).1; have := (one _ _ h2).1; omega
  · rw [List.getElem?_set, List.length_replicate] at h
    split at h
    · rename_i e; subst e; exact .inr ⟨0, 0, rfl⟩
    · rw [List.getElem?_replicate] at h
      split at h
      · cases h; exact .inl rfl
      · cases h
  · have h3 := (one _ _ h1).2; have h4 := (one _ _ h2).2; simp at h3 h4; omega
  · have h3 := (one _ _ h1).2; have h4 := (one _ _ h2).2; simp at h3 h4; omega
  · have := (one _ _ h).1; omega
theorem BfI.into (h : BfI st s n t D By P) (hx : P[t]? = some (kx, x)) : BfK st s n t 0 kx x D By P := ⟨h, hx, fun c hc => by simp at hc⟩
theorem BfK.skip (h : BfK st s n t m kx x D By P) (hc : (st x)[m]? = some c) {d : Int} (hd : D[c]? = some d) (h0 : 0 ≤ d) : BfK st s n t (m + 1) kx x D By P :=
  ⟨h.b, h.at_, fun c' hc' => by
    rw [List.take_add_one, hc] at hc'
    rcases List.mem_append.1 hc' with h2 | h2
    · exact h.part c' h2
    · simp at h2; subst h2
      rcases h.b.on c' d hd with h3 | ⟨i, k, h3⟩
      · omega
      · exact ⟨i, k, h3, h.b.span _ _ _ _ _ _ (Nat.le_refl _) h.at_ h3⟩⟩
theorem BfK.put (h : BfK st s n t m kx x D By P) (hc : (st x)[m]? = some c) (hcn : c < n) {d : Int} (hd : D[c]? = some d) (h0 : d < 0) : BfK st s n t (m + 1) kx x (D.set c ((kx : Int) + 1)) (By.set c (x : Int)) (P ++ [(kx + 1, c)]) := by
  have hb := h.b
  have hnew : ∀ (i k : Nat), P[i]? ≠ some (k, c) := fun i k e => by
    have := (hb.q i k c e).2.1
    rw [hd] at this; simp at this; omega
  have old : ∀ (i : Nat) y, P[i]? = some y → (P ++ [(kx + 1, c)])[i]? = some y := fun i y hy => by rw [List.getElem?_append_left (List.getElem?_eq_some_iff.1 hy).1]; exact hy
  have last : (P ++ [(kx + 1, c)])[P.length]? = some (kx + 1, c) := by simp
  have cases_ : ∀ (i : Nat) y, (P ++ [(kx + 1, c)])[i]? = some y → P[i]? = some y ∨ (i = P.length ∧ y = (kx + 1, c)) := fun i y hy => by
    rcases Nat.lt_or_ge i P.length with h1 | h1
    · rw [List.getElem?_append_left h1] at hy; exact .inl hy
    · rw [List.getElem?_append_right h1] at hy
      obtain ⟨j, hj⟩ : ∃ j, j = i - P.length := ⟨_, rfl⟩
      rw [← hj] at hy
      cases j with
      | zero => simp at hy; exact .inr ⟨by omega, hy.symm⟩
      | succ j => simp at hy
  have lt_ : ∀ (i : Nat) y, P[i]? = some y → i < P.length := fun i y hy => (List.getElem?_eq_some_iff.1 hy).1
  have htl := lt_ _ _ h.at_
  have inO : ∀ i e, inP P i e → inP (P ++ [(kx + 1, c)]) i e := fun i e ⟨j, k, h1, h2⟩ => ⟨j, k, h1, old _ _ h2⟩
  have hDl : c < D.length := by rw [hb.lenD]; exact hcn
  refine ⟨⟨by simp [hb.lenD], by simp [hb.lenB], old _ _ hb.z, fun i k e he => ?_, fun i j k l e h1 h2 => ?_, fun e d2 hd2 => ?_, fun i j k l e e' hij h1 h2 => ?_, fun i j k l e e' hi h1 h2 => ?_, fun j k u hj h1 e he => ?_, fun i k e hi h1 => ?_⟩, old _ _ h.at_, fun e he => ?_⟩
  · rcases cases_ _ _ he with h1 | ⟨rfl, h1⟩
    · obtain ⟨a1, a2, a3⟩ := hb.q _ _ _ h1
      have hne : c ≠ e := fun e2 => by subst e2; exact hnew _ _ h1
      exact ⟨a1, by rw [List.getElem?_set, if_neg hne]; exact a2, a3⟩
    · simp at h1; obtain ⟨rfl, rfl⟩ := h1
      exact ⟨hcn, by rw [List.getElem?_set, if_pos rfl, if_pos hDl]; simp, .step (hb.q _ _ _ h.at_).2.2 (List.mem_of_getElem? hc)⟩
  · rcases cases_ _ _ h1 with a | ⟨a, b⟩ <;> rcases cases_ _ _ h2 with a' | ⟨a', b'⟩
    · exact hb.inj _ _ _ _ _ a a'
    · simp at b'; rw [b'.2] at a; exact absurd a (hnew _ _)
    · simp at b; rw [b.2] at a'; exact absurd a' (hnew _ _)
    · omega
  · rw [List.getElem?_set] at hd2
    split at hd2
    · rename_i e2; subst e2; exact .inr ⟨_, _, last⟩
    · rcases hb.on _ _ hd2 with a | ⟨i, k, a⟩
      · exact .inl a
      · exact .inr ⟨i, k, old _ _ a⟩
  · rcases cases_ _ _ h1 with a | ⟨a, b⟩ <;> rcases cases_ _ _ h2 with a' | ⟨a', b'⟩
    · exact hb.mono _ _ _ _ _ _ hij a a'
    · simp at b'; have := hb.span _ _ _ _ _ _ (Nat.le_refl _) h.at_ a; omega
    · have := lt_ _ _ a'; omega
    · simp at b b'; omega
  · rcases cases_ _ _ h1 with a | ⟨a, b⟩ <;> rcases cases_ _ _ h2 with a' | ⟨a', b'⟩
    · exact hb.span _ _ _ _ _ _ hi a a'
    · simp at b'; have := hb.mono _ _ _ _ _ _ hi h.at_ a; omega
    · simp at b; have := hb.span _ _ _ _ _ _ (Nat.le_refl _) h.at_ a'; omega
    · simp at b b'; omega
  · rcases cases_ _ _ h1 with a | ⟨a, b⟩
    · obtain ⟨i, k', h3, h4⟩ := hb.cl _ _ _ hj a e he
      exact ⟨i, k', old _ _ h3, h4⟩
    · omega
  · rcases cases_ _ _ h1 with a | ⟨a, b⟩
    · obtain ⟨j, l, u, m2, a1, a2, a3, a4, a5, a6, a7⟩ := hb.by_ _ _ _ hi a
      have hne : c ≠ e := fun e2 => by subst e2; exact hnew _ _ a
      exact ⟨j, l, u, m2, a1, old _ _ a2, a3, a4, by rw [List.getElem?_set, if_neg hne]; exact a5, fun m' c' h2 h3 => inO _ _ (a6 m' c' h2 h3), fun j' l' u' h2 h3 c' hc' => by
        rcases cases_ _ _ h3 with b | ⟨b, _⟩
        · exact inO _ _ (a7 j' l' u' h2 b c' hc')
        · have := lt_ _ _ a2; omega⟩
    · simp at b; obtain ⟨rfl, rfl⟩ := b
      subst a
      refine ⟨t, kx, x, m, htl, old _ _ h.at_, rfl, hc, by rw [List.getElem?_set, if_pos rfl, if_pos (by rw [hb.lenB]; exact hcn)], fun m' c' h2 h3 => ?_, fun j' l' u' h2 h3 c' hc' => ?_⟩
      · obtain ⟨i, k', b1, _⟩ := h.part c' (List.mem_of_getElem? (i := m') (by rw [List.getElem?_take, if_pos h2]; exact h3))
        exact ⟨i, k', lt_ _ _ b1, old _ _ b1⟩
      · rcases cases_ _ _ h3 with b | ⟨b, _⟩
        · obtain ⟨i, k', b1, _⟩ := hb.cl _ _ _ h2 b c' hc'
          exact ⟨i, k', lt_ _ _ b1, old _ _ b1⟩
        · omega
  · rw [List.take_add_one, hc] at he
    rcases List.mem_append.1 he with h2 | h2
    · obtain ⟨i, k', h3, h4⟩ := h.part e h2
      exact ⟨i, k', old _ _ h3, h4⟩
    · simp at h2; subst h2; exact ⟨_, _, last, Nat.le_refl _⟩
theorem BfK.done (h : BfK st s n t (st x).length kx x D By P) : BfI st s n (t + 1) D By P :=
  { h.b with
    span := fun i j k l c e hi h1 h2 => h.b.span i j k l c e (by omega) h1 h2
    cl := fun j k u hj h1 c hc => by
      rcases Nat.lt_or_ge j t with h2 | h2
      · exact h.b.cl j k u h2 h1 c hc
      · obtain rfl : j = t := by omega
        rw [h.at_] at h1; cases h1
        exact h.part c (by rw [List.take_length]; exact hc) }
theorem BfI.reach (h : BfI st s n t D By P) (ht : P.length ≤ t) {k c : Nat} (hw : Wk st s k c) : ∃ i k' : Nat, P[i]? = some (k', c) ∧ k' ≤ k := by
  induction hw with
  | nil => exact ⟨0, 0, h.z, Nat.le_refl _⟩
  | step _ hc ih =>
    obtain ⟨i, k', h1, h2⟩ := ih
    obtain ⟨i2, k2, h3, h4⟩ := h.cl i k' _ (by have := (List.getElem?_eq_some_iff.1 h1).1; omega) h1 _ hc
    exact ⟨i2, k2, h3, by omega⟩
theorem BfI.isD (h : BfI st s n t D By P) (ht : P.length ≤ t) {c : Nat} {d : Int} (hd : D[c]? = some d) : IsD st s c d := by
  rcases h.on c d hd with h1 | ⟨i, k, h1⟩
  · refine .inl ⟨h1, fun k hw => ?_⟩
    obtain ⟨i, k', h2, _⟩ := h.reach ht hw
    have := (h.q _ _ _ h2).2.1
    rw [hd] at this; simp at this; omega
  · obtain ⟨_, h2, h3⟩ := h.q _ _ _ h1
    rw [hd] at h2; cases h2
    refine .inr ⟨k, rfl, h3, fun k' hw => ?_⟩
    obtain ⟨i2, k2, h4, h5⟩ := h.reach ht hw
    have := (h.q _ _ _ h4).2.1
    rw [hd] at this; simp at this; omega
theorem BfI.key (h : BfI st s n t D By P) : ∀ (i k c : Nat), P[i]? = some (k, c) → k ≤ i := by
  intro i
  induction i using Nat.strongRecOn with
  | _ i ih =>
    intro k c hi
    rcases Nat.eq_zero_or_pos i with rfl | h0
    · rw [h.z] at hi; cases hi; exact Nat.le_refl _
    · obtain ⟨j, l, u, m, h1, h2, h3, _⟩ := h.by_ _ _ _ h0 hi
      have := ih j h1 l u h2
      omega
theorem BfI.len (h : BfI st s n t D By P) : P.length ≤ n := by
  have : (P.map Prod.snd).Nodup := by
    rw [List.nodup_iff_pairwise_ne, List.pairwise_iff_getElem]
    intro i j hi hj hij e
    simp at hi hj e
    have := h.inj i j P[i].1 P[j].1 P[i].2 (List.getElem?_eq_getElem hi) (by rw [e]; exact List.getElem?_eq_getElem hj)
    omega
  have h2 : ∀ x ∈ P.map Prod.snd, x < n := fun x hx => by
    rw [List.mem_map] at hx
    obtain ⟨⟨k, c⟩, hy, rfl⟩ := hx
    obtain ⟨i, hi⟩ := List.mem_iff_getElem?.1 hy
    exact (h.q i k c hi).1
  have h3 := List.Nodup.length_le_of_subset this (l₂ := List.range n) (fun x hx => by simpa using h2 x hx)
  simpa using h3
end
/-- The heap's entries. -/
def entP (P : List (Nat × Nat)) : List Ent := P.mapIdx fun i y => ⟨(y.1 : Int), (y.2 : Int), i⟩
theorem entP_len (P : List (Nat × Nat)) : (entP P).length = P.length := by simp [entP]
theorem entP_get (P : List (Nat × Nat)) (i : Nat) : (entP P)[i]? = P[i]?.map fun y => ⟨(y.1 : Int), (y.2 : Int), i⟩ := by simp [entP]
theorem entP_app (P : List (Nat × Nat)) (k c : Nat) : entP (P ++ [(k, c)]) = entP P ++ [⟨(k : Int), (c : Int), P.length⟩] := by simp [entP, List.mapIdx_append]
theorem BfI.pop {st : Nat → List Nat} {s n t : Nat} {D By : List Int} {P : List (Nat × Nat)} {M M' : List Ent} {a : Ent} (h : BfI st s n t D By P) (hM : M.Perm ((entP P).drop t)) (hp : M.Perm (a :: M')) (hmin : ∀ y ∈ M', ¬ y.lt a) :
    ∃ kx x, P[t]? = some (kx, x) ∧ a = ⟨(kx : Int), (x : Int), t⟩ ∧ M'.Perm ((entP P).drop (t + 1)) := by
  have hl := (hM.symm.trans hp).length_eq
  simp [entP_len] at hl
  obtain ⟨⟨kx, x⟩, hx⟩ : ∃ y, P[t]? = some y := ⟨_, List.getElem?_eq_getElem (by omega)⟩
  have he : (entP P)[t]? = some ⟨(kx : Int), (x : Int), t⟩ := by rw [entP_get, hx]; rfl
  have hd : (entP P).drop t = ⟨(kx : Int), (x : Int), t⟩ :: (entP P).drop (t + 1) := by
    have hlt : t < (entP P).length := (List.getElem?_eq_some_iff.1 he).1
    rw [List.drop_eq_getElem_cons hlt]
    congr 1
    exact (List.getElem?_eq_some_iff.1 he).2
  have hpp := (hM.symm.trans hp)
  rw [hd] at hpp
  have ha : a = ⟨(kx : Int), (x : Int), t⟩ := by
    have m1 : (⟨(kx : Int), (x : Int), t⟩ : Ent) ∈ a :: M' := hpp.subset (by simp)
    rcases List.mem_cons.1 m1 with e | m1
    · exact e.symm
    · exfalso
      refine hmin _ m1 ?_
      have m2 : a ∈ (⟨(kx : Int), (x : Int), t⟩ : Ent) :: (entP P).drop (t + 1) := hpp.symm.subset (by simp)
      rcases List.mem_cons.1 m2 with e | m2
      · exfalso
        obtain ⟨j, hj⟩ := List.mem_iff_getElem?.1 m1
        rw [e] at hpp
        have m3 : (⟨(kx : Int), (x : Int), t⟩ : Ent) ∈ (entP P).drop (t + 1) := (hpp.cons_inv).symm.subset m1
        obtain ⟨j, hj⟩ := List.mem_iff_getElem?.1 m3
        rw [List.getElem?_drop, entP_get] at hj
        rcases hq : P[t + 1 + j]? with _ | y
        · rw [hq] at hj; simp at hj
        · rw [hq] at hj; simp at hj; omega
      · obtain ⟨j, hj⟩ := List.mem_iff_getElem?.1 m2
        rw [List.getElem?_drop, entP_get] at hj
        rcases hq : P[t + 1 + j]? with _ | ⟨k2, c2⟩
        · rw [hq] at hj; simp at hj
        · rw [hq] at hj
          simp at hj
          rw [← hj]
          have := h.mono t (t + 1 + j) _ _ _ _ (by omega) hx hq
          unfold Ent.lt
          simp only
          omega
  refine ⟨kx, x, hx, ha, ?_⟩
  rw [ha] at hpp
  exact hpp.cons_inv.symm
end Go.Proofs.YtmipnicdlldjnaaGreatDoor

namespace Go.Proofs.YtmipnicdlldjnaaGreatDoor
set_option linter.unusedVariables false
set_option linter.unusedSimpArgs false
open Go.RowKit

/-- An entry's cells. -/
def HK : Kd Ent := { sz := 3, enc := fun x => [.int .i64 x.k, .int .i64 x.v, .int .u64 (x.q : Int)], len := fun _ => rfl, one := by intro a v hv; simp at hv; rcases hv with rfl | rfl | rfl <;> rfl, pos := by decide }
theorem elH : ElT Tryz.prog 132 136 HK 24 := ElT.of (z := .agg #[.int .i64 0, .int .i64 0, .int .u64 0]) (by kernel_rfl) (by kernel_rfl) (by kernel_rfl)
def Ent.val (x : Ent) : Value := .agg #[.int .i64 x.k, .int .i64 x.v, .int .u64 (x.q : Int)]
theorem encs_ext {α : Type} (K : Kd α) : ∀ (E : List α) (L : List Value), L.length = E.length * K.sz → (∀ (i : Nat) x (j : Nat), E[i]? = some x → j < K.sz → L[i * K.sz + j]? = (K.enc x)[j]?) → L = K.encs E := by
  intro E L hl h
  apply List.ext_getElem?
  intro m
  by_cases hm : m < E.length * K.sz
  · have hp := K.pos
    have hq : m / K.sz < E.length := by rw [Nat.div_lt_iff_lt_mul hp]; exact hm
    obtain ⟨x, hx⟩ : ∃ x, E[m / K.sz]? = some x := ⟨_, List.getElem?_eq_getElem hq⟩
    have hr := Nat.mod_lt m hp
    have h1 := h (m / K.sz) x (m % K.sz) hx hr
    have h2 := K.encs_get E (m / K.sz) (m % K.sz) x hx hr
    rw [Nat.div_add_mod' m K.sz] at h1 h2
    rw [h1, h2]
  · rw [List.getElem?_eq_none (by omega), List.getElem?_eq_none (by rw [K.length_encs]; omega)]
/-- An element of three cells is written. -/
theorem Own.set3 {w : World} {e : TypeId} {g n cap : Nat} {E : List Ent} (h : Own HK e w (.slice (some ⟨g, 0, none⟩) n cap) E) {i : Nat} (hi : i < E.length) (x : Ent) :
    Own HK e (((w.setCell ⟨g, i * 3, none⟩ (.int .i64 x.k)).setCell ⟨g, i * 3 + 1, none⟩ (.int .i64 x.v)).setCell ⟨g, i * 3 + 2, none⟩ (.int .u64 (x.q : Int))) (.slice (some ⟨g, 0, none⟩) n cap) (E.set i x) := by
  rcases h with ⟨hv, _⟩ | ⟨g', cap', cur, hv, hb, hlc, hcm, hsz, htake⟩
  · simp at hv
  simp only [Value.slice.injEq, Option.some.injEq, Addr.mk.injEq] at hv
  obtain ⟨⟨rfl, _, _⟩, rfl, rfl⟩ := hv
  have hsz3 : cur.size = cap * 3 := hsz
  have hic : i * 3 + 2 < cur.size := by rw [hsz3]; omega
  refine .inr ⟨g, cap, _, by rw [List.length_set], blk_set (blk_set (blk_set hb _ _) _ _) _ _, by rw [List.length_set]; exact hlc, hcm, by simp; exact hsz, ?_⟩
  refine encs_ext HK _ _ ?_ fun m y j hy hj => ?_
  · have h3 : HK.sz = 3 := rfl
    rw [List.length_take, List.length_set, h3]
    have : ((((cur.setIfInBounds (i * 3) (.int .i64 x.k)).setIfInBounds (i * 3 + 1) (.int .i64 x.v)).setIfInBounds (i * 3 + 2) (.int .u64 (x.q : Int))).toList).length = cap * 3 := by simp [hsz3]
    rw [this]; omega
  · have h3 : HK.sz = 3 := rfl
    rw [h3] at hj ⊢
    have hml := (List.getElem?_eq_some_iff.1 hy).1
    rw [List.length_set] at hml
    rw [List.getElem?_take, List.length_set, if_pos (show m * 3 + j < E.length * 3 by omega)]
    rw [Array.getElem?_toList, Array.getElem?_setIfInBounds, Array.getElem?_setIfInBounds, Array.getElem?_setIfInBounds]
    rw [List.getElem?_set] at hy
    by_cases hmi : i = m
    · subst hmi
      rw [if_pos rfl, if_pos hi] at hy
      cases hy
      obtain rfl | rfl | rfl : j = 0 ∨ j = 1 ∨ j = 2 := by omega
      · rw [if_neg (by omega), if_neg (by omega), if_pos (by omega), if_pos (by omega)]; rfl
      · rw [if_neg (by omega), if_pos (by omega), if_pos (by simp; omega)]; rfl
      · rw [if_pos (by omega), if_pos (by simp; omega)]; rfl
    · rw [if_neg hmi] at hy
      rw [if_neg (by omega), if_neg (by omega), if_neg (by omega)]
      have h4 := HK.encs_get E m j y hy (by rw [h3]; exact hj)
      rw [← htake, List.getElem?_take, h3, if_pos (show m * 3 + j < E.length * 3 by omega), Array.getElem?_toList] at h4
      exact h4
/-- A heap. -/
structure HpR (p : Nat) (V : Value) (nx : Nat) (E : List Ent) (w : World) : Prop where
  blk : w.heap[p]? = some (.cells #[V, .int .u64 (nx : Int)] 134 (0, 0))
  own : Own HK 136 w V E
  ne : V.ownBlock ≠ some p
section
variable {p nx : Nat} {V : Value} {E : List Ent} {w w' : World}
theorem HpR.no (h : HpR p V nx E w) (hk : Kp No w w') : HpR p V nx E w' := ⟨hk.blk h.blk (no_no _), h.own.kpNo hk, h.ne⟩
theorem HpR.kp {S : Nat → Prop} (h : HpR p V nx E w) (hk : Kp S w w') (h1 : ¬ S p) (h2 : ∀ g, V.ownBlock = some g → ¬ S g) : HpR p V nx E w' := ⟨hk.blk h.blk h1, h.own.kp hk h2, h.ne⟩
theorem HpR.c0 (h : HpR p V nx E w) : w.cell? ⟨p, 0, none⟩ = some V := blk_cell h.blk 0
theorem HpR.c1 (h : HpR p V nx E w) : w.cell? ⟨p, 1, none⟩ = some (.int .u64 (nx : Int)) := blk_cell h.blk 1
theorem HpR.f (h : HpR p V nx E w) (i : Nat) : w.frozen? ⟨p, i, none⟩ = false := blk_free h.blk i
theorem HpR.lt (h : HpR p V nx E w) : p < w.heap.size := lt_of_block h.blk
end
theorem ownH_at {w : World} {e : TypeId} {g n cap : Nat} {E : List Ent} (h : Own HK e w (.slice (some ⟨g, 0, none⟩) n cap) E) {i : Nat} {x : Ent} (hx : E[i]? = some x) :
    w.cell? ⟨g, i * 3, none⟩ = some (.int .i64 x.k) ∧ w.cell? ⟨g, i * 3 + 1, none⟩ = some (.int .i64 x.v) ∧ w.cell? ⟨g, i * 3 + 2, none⟩ = some (.int .u64 (x.q : Int)) := by
  have h0 := h.rd.at rfl hx (j := 0) rfl
  have h1 := h.rd.at rfl hx (j := 1) rfl
  have h2 := h.rd.at rfl hx (j := 2) rfl
  simp only [HK, Nat.zero_add, Nat.add_zero] at h0 h1 h2
  exact ⟨h0, h1, h2⟩
theorem ownH_f {w : World} {e : TypeId} {g n cap : Nat} {E : List Ent} (h : Own HK e w (.slice (some ⟨g, 0, none⟩) n cap) E) (i : Nat) : w.frozen? ⟨g, i, none⟩ = false := by
  rcases h with ⟨hv, _⟩ | ⟨g', cap', cur, hv, hb, _⟩
  · simp at hv
  simp only [Value.slice.injEq, Option.some.injEq, Addr.mk.injEq] at hv
  obtain ⟨⟨rfl, _⟩, _⟩ := hv
  exact blk_free hb i

set_option maxRecDepth 100000 in
theorem hpless_any (a b : Ent) (t : Bool) (ht : t = decide (a.lt b)) (w : World) : Calls Tryz.prog 102 #[a.val, b.val] w fun e w' => e = .returned (.bool t) ∧ Kp No w w' := by
  have HT := Lib.hid ht
  clear ht
  obtain ⟨ak, av, aq⟩ := a
  obtain ⟨bk, bv, bq⟩ := b
  unfold Ent.val
  simp only
  have K0 := Lib.hid (((Kp.refl No w).alloc (.cells #[.int .i64 ak, .int .i64 av, .int .u64 (aq : Int)] 136)).alloc (.cells #[.int .i64 bk, .int .i64 bv, .int .u64 (bq : Int)] 136))
  by_cases h1 : ak = bk
  · subst h1
    have hb : (ak != ak) = false := by simp
    obtain ⟨s, hs⟩ : ∃ s : Bool, decide ((aq : Int) < (bq : Int)) = s := ⟨_, rfl⟩
    have HS := Lib.hid (show t = s by rw [HT.out, ← hs, Bool.eq_iff_iff]; simp [Ent.lt])
    have hs2 : decide (aq < bq) = s := by rw [← hs, Bool.eq_iff_iff]; simp
    go_enter Tryz.func102, Tryz.ntmps102
    go_wp2_with fail
    go_ret
    exact ⟨by rw [HS.out]; rfl, K0.out⟩
  · have hb : (ak != bk) = true := by simpa using h1
    obtain ⟨s, hs⟩ : ∃ s : Bool, decide (ak < bk) = s := ⟨_, rfl⟩
    have HS := Lib.hid (show t = s by rw [HT.out, ← hs, Bool.eq_iff_iff]; simp [Ent.lt, h1])
    go_enter Tryz.func102, Tryz.ntmps102
    go_wp2_with fail
    go_ret
    exact ⟨by rw [HS.out]; rfl, K0.out⟩
end Go.Proofs.YtmipnicdlldjnaaGreatDoor

namespace Go.Proofs.YtmipnicdlldjnaaGreatDoor
set_option linter.unusedVariables false
set_option linter.unusedSimpArgs false
open Go.RowKit

theorem cellSet {w : World} {p q : Addr} {x v : Value} (h : w.cell? q = some v) : ∃ v', (w.setCell p x).cell? q = some v' := by
  by_cases e : p = q
  · subst e; exact ⟨x, World.cell?_setCell_same w p x h⟩
  · exact ⟨v, (World.cell?_setCell_other w p q x e).trans h⟩
/-- What up, down and swap leave. -/
structure HpS (p : Nat) (V : Value) (nx : Nat) (E : List Ent) (w w' : World) : Prop where
  r : HpR p V nx E w'
  kp : Kp (fun k => V.ownBlock = some k) w w'
theorem HpS.trans {p nx : Nat} {V : Value} {E E' : List Ent} {a b c : World} (h : HpS p V nx E a b) (k : HpS p V nx E' b c) : HpS p V nx E' a c := ⟨k.r, h.kp.trans k.kp⟩

set_option maxHeartbeats 1000000 in
set_option maxRecDepth 100000 in
theorem hpswap_any {p nx : Nat} {V : Value} {E : List Ent} {w : World} (h : HpR p V nx E w) (i k : Nat) (a b : Ent) (ha : E[i]? = some a) (hb : E[k]? = some b) :
    Calls Tryz.prog 86 #[.pointer (some ⟨p, 0, none⟩), .int .i64 (i : Int), .int .i64 (k : Int)] w fun e w' => e = .returned (.tuple #[]) ∧ HpS p V nx (swapL E i k a b) w w' := by
  have hi := (List.getElem?_eq_some_iff.1 ha).1
  have hk := (List.getElem?_eq_some_iff.1 hb).1
  rcases h.own.b with ⟨_, rfl⟩ | ⟨g, cap, rfl, hcm, hlc, _⟩
  · simp at ha
  obtain ⟨n, hn⟩ : ∃ n, n = E.length := ⟨_, rfl⟩
  rw [← hn] at h hi hk ⊢
  have hgp : g ≠ p := fun e => h.ne (by rw [e]; rfl)
  have HH := Lib.hid h
  have HA := Lib.hid ha; have HB := Lib.hid hb
  have hiI : (i : Int) < (n : Int) := by omega
  have hkI : (k : Int) < (n : Int) := by omega
  have hp0 : w.cell? ⟨p, 0, none⟩ = some (.slice (some ⟨g, 0, none⟩) n cap) := h.c0
  obtain ⟨a0, a1, a2⟩ := ownH_at h.own ha
  obtain ⟨b0, b1, b2⟩ := ownH_at h.own hb
  have hf := ownH_f h.own
  obtain ⟨v0, c0⟩ := cellSet (p := ⟨g, i * 3, none⟩) (x := .int .i64 b.k) b0
  obtain ⟨v1', c1'⟩ := cellSet (p := ⟨g, i * 3, none⟩) (x := .int .i64 b.k) b1
  obtain ⟨v1, c1⟩ := cellSet (p := ⟨g, i * 3 + 1, none⟩) (x := .int .i64 b.v) c1'
  obtain ⟨v2', c2'⟩ := cellSet (p := ⟨g, i * 3, none⟩) (x := .int .i64 b.k) b2
  obtain ⟨v2'', c2''⟩ := cellSet (p := ⟨g, i * 3 + 1, none⟩) (x := .int .i64 b.v) c2'
  obtain ⟨v2, c2⟩ := cellSet (p := ⟨g, i * 3 + 2, none⟩) (x := .int .u64 (b.q : Int)) c2''
  clear c1' c2' c2''
  obtain ⟨wz, hwz⟩ : ∃ wz, wz = ((((((w.setCell ⟨g, i * 3, none⟩ (.int .i64 b.k)).setCell ⟨g, i * 3 + 1, none⟩ (.int .i64 b.v)).setCell ⟨g, i * 3 + 2, none⟩ (.int .u64 (b.q : Int))).setCell ⟨g, k * 3, none⟩ (.int .i64 a.k)).setCell ⟨g, k * 3 + 1, none⟩ (.int .i64 a.v)).setCell ⟨g, k * 3 + 2, none⟩ (.int .u64 (a.q : Int))) := ⟨_, rfl⟩
  have HZ := Lib.hid (show HpS p (.slice (some ⟨g, 0, none⟩) n cap) nx (swapL E i k a b) w wz by
    rw [hwz]
    have o1 := h.own.set3 (i := i) (by omega) b
    have o2 := o1.set3 (i := k) (by rw [List.length_set]; omega) a
    have st : ∀ (w1 : World) (o : Nat) (u : Value), Kp (fun j => (Value.slice (some ⟨g, 0, none⟩) n cap).ownBlock = some j) w w1 → Kp (fun j => (Value.slice (some ⟨g, 0, none⟩) n cap).ownBlock = some j) w (w1.setCell ⟨g, o, none⟩ u) := fun w1 o u hk => hk.setCell (p := ⟨g, o, none⟩) (fun _ => rfl) u
    have kk := st _ (k * 3 + 2) (.int .u64 (a.q : Int)) (st _ (k * 3 + 1) (.int .i64 a.v) (st _ (k * 3) (.int .i64 a.k) (st _ (i * 3 + 2) (.int .u64 (b.q : Int)) (st _ (i * 3 + 1) (.int .i64 b.v) (st _ (i * 3) (.int .i64 b.k) (Kp.refl _ w))))))
    exact ⟨⟨kk.blk h.blk (fun e => hgp (by simpa [Value.ownBlock] using e)), o2, h.ne⟩, kk⟩)
  have HWZ := Lib.hid hwz
  have hf' : ∀ i, w.frozen? ⟨g, i, none⟩ = false := hf
  clear ha hb h hi hk hn hwz hf HA HB HH
  go_enter Tryz.func86, Tryz.ntmps86
  go_wp2_with fail
  go_region
  all_goals
    go_end0
    refine ⟨rfl, ?_⟩
    rw [← HWZ.out]
    exact ⟨HZ.out.r.no (Kp.refl _ _).drew, HZ.out.kp.drew⟩
end Go.Proofs.YtmipnicdlldjnaaGreatDoor

namespace Go.Proofs.YtmipnicdlldjnaaGreatDoor
set_option linter.unusedVariables false
set_option linter.unusedSimpArgs false
open Go.RowKit

theorem HpS.refl {p nx : Nat} {V : Value} {E : List Ent} {w : World} (h : HpR p V nx E w) : HpS p V nx E w w := ⟨h, Kp.refl _ _⟩
theorem HpS.no {p nx : Nat} {V : Value} {E : List Ent} {w w1 w2 : World} (h : HpS p V nx E w w1) (k : Kp No w1 w2) : HpS p V nx E w w2 := ⟨h.r.no k, h.kp.no k⟩
set_option maxHeartbeats 1000000 in
set_option maxRecDepth 100000 in
theorem hpup_any {p nx : Nat} {V : Value} {E : List Ent} {w : World} (h : HpR p V nx E w) (i : Nat) (hi : i < E.length) (hE : E.length ≤ 4000000000) (hu : UpI E i) :
    Calls Tryz.prog 84 #[.pointer (some ⟨p, 0, none⟩), .int .i64 (i : Int)] w fun e w' => e = .returned (.tuple #[]) ∧ ∃ E', E'.Perm E ∧ HeapO E' ∧ HpS p V nx E' w w' := by
  rcases h.own.b with ⟨_, rfl⟩ | ⟨g, cap, rfl, hcm, hlc, _⟩
  · simp at hi
  obtain ⟨n, hn⟩ : ∃ n, n = E.length := ⟨_, rfl⟩
  rw [← hn] at h hi hE ⊢
  have HH := Lib.hid h; have HU := Lib.hid hu; have HN := Lib.hid hn
  clear h hu hn hcm hlc
  go_enter Tryz.func84, Tryz.ntmps84
  go_wp2_with fail
  go_loopg [1] (i + 1) (fun g2 iv wx => ∃ (k : Nat) (E' : List Ent), g2 = k + 1 ∧ iv = .int .i64 k ∧ k < n ∧ E'.Perm E ∧ UpI E' k ∧ HpS p (.slice (some ⟨g, 0, none⟩) n cap) nx E' w wx)
  case atStart => exact ⟨i, E, rfl, rfl, hi, List.Perm.refl _, HU.out, HpS.refl HH.out⟩
  case round =>
    obtain ⟨k, E', hg2, rfl, hk, hp, hu, hs⟩ := hrel
    have HP := Lib.hid hp; have HUK := Lib.hid hu; have HS := Lib.hid hs
    have hl : E'.length = n := by rw [hp.length_eq, HN.out]
    have HL := Lib.hid hl
    have hkI : (k : Int) < (n : Int) := by omega
    have hp0 : wr.cell? ⟨p, 0, none⟩ = some (.slice (some ⟨g, 0, none⟩) n cap) := hs.r.c0
    obtain ⟨a, ha⟩ : ∃ a, E'[k]? = some a := ⟨_, List.getElem?_eq_getElem (by omega)⟩
    have HA := Lib.hid ha
    clear hp hu
    by_cases h0 : k = 0
    · have h0d : decide ((0 : Int) < (k : Int)) = false := by simp; omega
      have h0n : decide (0 < k) = false := by simp; omega
      have HO := Lib.hid (HUK.out.done (fun a b hk0 => by omega))
      clear ha h0 hs hl
      go_wp2_with fail
      go_quiet (fail)
      go_wp2_with fail
      go_end0
      exact ⟨rfl, E', HP.out, HO.out, HS.out.no ((Kp.refl _ _).drewN _)⟩
    · obtain ⟨j, hj⟩ : ∃ j, k = j + 1 := ⟨k - 1, by omega⟩
      obtain ⟨q, hq⟩ : ∃ q, q = (k - 1) / 2 := ⟨_, rfl⟩
      have hqj : q = j / 2 := by rw [hq, hj]; rfl
      have h0I : (0 : Int) < (k : Int) := by omega
      have h0d : decide ((0 : Int) < (k : Int)) = true := by simp; omega
      have h0n : decide (0 < k) = true := by simp; omega
      have hw1 : IntKind.i64.wrap ((k : Int) - 1) = (j : Int) := by rw [IntWalk.i64_in _ (by omega)]; omega
      have hw2 : (k : Int) - 1 = (j : Int) := by omega
      have hwj : IntKind.i64.wrap (j : Int) = (j : Int) := IntWalk.i64_in _ (by omega)
      have hd1 : (j : Int).tdiv 2 = (q : Int) := by rw [Int.tdiv_eq_ediv_of_nonneg (by omega), hqj]; rfl
      have hd2 : (j : Int) / 2 = (q : Int) := by rw [hqj]; rfl
      have hwq : IntKind.i64.wrap (q : Int) = (q : Int) := IntWalk.i64_in _ (by omega)
      have hqI : (q : Int) < (n : Int) := by omega
      have hq0I : (0 : Int) ≤ (q : Int) := by omega
      have hk0I : (0 : Int) ≤ (k : Int) := by omega
      have hj0I : (0 : Int) ≤ (j : Int) := by omega
      have h20 : ((2 : Int) == 0) = false := rfl
      obtain ⟨b, hb⟩ : ∃ b, E'[q]? = some b := ⟨_, List.getElem?_eq_getElem (by omega)⟩
      have HB := Lib.hid hb
      obtain ⟨a0, a1, a2⟩ := ownH_at hs.r.own ha
      obtain ⟨b0, b1, b2⟩ := ownH_at hs.r.own hb
      obtain ⟨t, ht⟩ : ∃ t, t = decide (a.lt b) := ⟨_, rfl⟩
      have HLS := Lib.hid (hpless_any a b t ht)
      have HT := Lib.hid ht
      unfold Ent.val at HLS
      have HQ := Lib.hid hq
      have HK0 := Lib.hid (show 0 < k by omega)
      clear ha hb ht hs hq hqj hj h0 hl
      have p0 : wr.drew.cell? ⟨p, 0, none⟩ = some (.slice (some ⟨g, 0, none⟩) n cap) := hp0
      have a0' : wr.drew.cell? ⟨g, k * 3, none⟩ = some (.int .i64 a.k) := a0
      have a1' : wr.drew.cell? ⟨g, k * 3 + 1, none⟩ = some (.int .i64 a.v) := a1
      have a2' : wr.drew.cell? ⟨g, k * 3 + 2, none⟩ = some (.int .u64 (a.q : Int)) := a2
      have b0' : wr.drew.cell? ⟨g, q * 3, none⟩ = some (.int .i64 b.k) := b0
      have b1' : wr.drew.cell? ⟨g, q * 3 + 1, none⟩ = some (.int .i64 b.v) := b1
      have b2' : wr.drew.cell? ⟨g, q * 3 + 2, none⟩ = some (.int .u64 (b.q : Int)) := b2
      go_wp2_with fail
      go_region_held3 (fun w' => w'.cell? ⟨p, 0, none⟩ = some (.slice (some ⟨g, 0, none⟩) n cap) ∧ w'.cell? ⟨g, k * 3, none⟩ = some (.int .i64 a.k) ∧ w'.cell? ⟨g, k * 3 + 1, none⟩ = some (.int .i64 a.v) ∧ w'.cell? ⟨g, k * 3 + 2, none⟩ = some (.int .u64 (a.q : Int)) ∧ w'.cell? ⟨g, q * 3, none⟩ = some (.int .i64 b.k) ∧ w'.cell? ⟨g, q * 3 + 1, none⟩ = some (.int .i64 b.v) ∧ w'.cell? ⟨g, q * 3 + 2, none⟩ = some (.int .u64 (b.q : Int)))
        (first | exact ⟨by assumption, by assumption, by assumption, by assumption, by assumption, by assumption, by assumption⟩ | exact ⟨p0, a0', a1', a2', b0', b1', b2'⟩)
        (first
          | (go_at_call 102; refine (HLS.out wr.drew).mono ?_; rintro e w8 ⟨rfl, k8⟩; have t0 := k8.cellS p0 (no_no _); have t1 := k8.cellS a0' (no_no _); have t2 := k8.cellS a1' (no_no _); have t3 := k8.cellS a2' (no_no _); have t4 := k8.cellS b0' (no_no _); have t5 := k8.cellS b1' (no_no _); have t6 := k8.cellS b2' (no_no _); have K8 := Lib.hid ((Kp.refl No wr).drew.no k8); clear k8))
      have S8 := Lib.hid (HS.out.no K8.out)
      clear p0 a0' a1' a2' b0' b1' b2' t0 t1 t2 t3 t4 t5 t6 hp0 a0 a1 a2 b0 b1 b2
      cases t with
      | true =>
        have hlt : a.lt b := by have := HT.out; simpa using this.symm
        have UN := Lib.hid (HUK.out.step HK0.out HA.out (by rw [← HQ.out]; exact HB.out) hlt)
        rw [← HQ.out] at UN
        have PN := Lib.hid ((swapL_perm HA.out HB.out).trans HP.out)
        clear hlt
        go_wp2_with (go_at_call 86; refine (hpswap_any S8.out.r k q a b HA.out HB.out).mono ?_; rintro e w9 ⟨rfl, s9⟩; have S9 := Lib.hid (S8.out.trans s9); clear s9)
        go_roundg (q + 1)
        case measure => have := HQ.out; have := HK0.out; omega
        case rel => exact ⟨q, _, rfl, rfl, by omega, PN.out, UN.out, S9.out⟩
      | false =>
        have hlt : ¬ a.lt b := by have := HT.out; simpa using this
        have HO := Lib.hid (HUK.out.done (fun x y _ hx hy => by
          have h1 := HA.out; have h2 := HB.out
          rw [HQ.out] at h2
          rw [hx] at h1; rw [hy] at h2
          cases h1; cases h2; exact hlt))
        clear hlt
        go_wp2_with fail
        go_end0
        exact ⟨rfl, E', HP.out, HO.out, S8.out⟩
end Go.Proofs.YtmipnicdlldjnaaGreatDoor

namespace Go.Proofs.YtmipnicdlldjnaaGreatDoor
set_option linter.unusedVariables false
set_option linter.unusedSimpArgs false
open Go.RowKit

theorem stp_app {α : Type} {K : Kd α} {P : Program} {t e : TypeId} {bytes : Nat} {w : World} (E : ElT P t e K bytes) {ops : Array Oper} {o : Oper} {a : Act} {K' : Act → World → Prop} {Q : Exit → Act → World → Prop} {Ex : Prop} (hgd : o.guard = none) (s x : Operand)
    (ho : o.op = .call { callee := .builtin .append, args := #[s, x], argTypes := #[t, t] }) {v xv : Value} {l m : List α} (hs : a.eval s = v) (hxv : a.eval x = xv)
    (hown : Own K e w v l) (hx : Rd K w xv m) (h63 : l.length + m.length ≤ maxLen) (hbytes : (l.length + m.length) * bytes ≤ 140737488355328)
    (h : ∀ v' w', Own K e w' v' (l ++ m) → Kp (fun k => v.ownBlock = some k) w w' → (∀ g, v'.ownBlock = some g → v.ownBlock = some g ∨ w.heap.size ≤ g) → K' (a.put o.dst v') w') : if Region.wanted o (yielded ops a.tmps) = true then Oper.wp P o a w K' Q else Ex := by
  have hw : Region.wanted o (yielded ops a.tmps) = true := by simp [Region.wanted, hgd]
  rw [if_pos hw]
  obtain ⟨v', w', hr, h2, h3, h4⟩ := run_append E o.type hown hx h63 hbytes
  unfold Oper.wp execOp
  simp only [ho, resolve, invoke, builtin, Sem.run_bind, Sem.run_pure, Result.andThen_ok, List.map_toArray, List.map_cons, List.map_nil, hs, hxv, hr]
  exact h v' w' h2 h3 h4
end Go.Proofs.YtmipnicdlldjnaaGreatDoor

namespace Go.Proofs.YtmipnicdlldjnaaGreatDoor
set_option linter.unusedVariables false
set_option linter.unusedSimpArgs false
open Go.RowKit

/-- What Push leaves. -/
structure HpP (p : Nat) (V V' : Value) (w w' : World) : Prop where
  kp : Kp (fun k => k = p ∨ V.ownBlock = some k) w w'
  ge : ∀ g, V'.ownBlock = some g → V.ownBlock = some g ∨ w.heap.size ≤ g
/-- A heap holds just M, in any order. -/
def HpM (p : Nat) (V : Value) (nx : Nat) (M : List Ent) (w : World) : Prop := ∃ E, E.Perm M ∧ HeapO E ∧ HpR p V nx E w
theorem rdH_one {w : World} (x : Ent) {b : Nat} (hb : b = w.heap.size) : Rd HK (w.alloc (.cells #[.int .i64 x.k, .int .i64 x.v, .int .u64 (x.q : Int)] 136)) (.slice (some ⟨b, 0, none⟩) 1 1) [x] :=
  Rd.litAt HK 136 w _ [x] rfl (by unfold maxLen; rw [List.length_singleton]; omega) _ _ hb rfl

set_option maxHeartbeats 1000000 in
set_option maxRecDepth 100000 in
theorem hppush_any {p nx : Nat} {V : Value} {M : List Ent} {w : World} (h : HpM p V nx M w) (hM : M.length ≤ 2000000000) (hnx : nx ≤ 2000000000) (k v : Int) :
    Calls Tryz.prog 59 #[.pointer (some ⟨p, 0, none⟩), .agg #[.int .i64 k, .int .i64 v]] w fun e w' => e = .returned (.tuple #[]) ∧ ∃ V', HpM p V' (nx + 1) (M ++ [⟨k, v, nx⟩]) w' ∧ HpP p V V' w w' := by
  obtain ⟨E, hp, ho, hr⟩ := h
  obtain ⟨A, c, rfl⟩ := hr.own.rd.shape
  obtain ⟨n, hn⟩ : ∃ n, n = E.length := ⟨_, rfl⟩
  rw [← hn] at hr ⊢
  have hn1 : n ≤ 2000000000 := by rw [hn, hp.length_eq]; exact hM
  have HP := Lib.hid hp; have HO := Lib.hid ho; have HN := Lib.hid hn
  obtain ⟨w1, hw1⟩ : ∃ w1, w1 = w.alloc (.cells #[.int .i64 k, .int .i64 v] 105) := ⟨_, rfl⟩
  have HR1 := Lib.hid (show HpR p (.slice A n c) nx E w1 by rw [hw1]; exact hr.no ((Kp.refl _ _).alloc _))
  have K1 := Lib.hid (show Kp No w w1 by rw [hw1]; exact (Kp.refl _ _).alloc _)
  have HW1 := Lib.hid hw1
  have HL := Lib.hid (show p < w.heap.size from hr.lt)
  have HOW := Lib.hid (fun g (hg : (Value.slice A n c).ownBlock = some g) => hr.own.lt hg)
  have hx0 : w1.cell? ⟨w.heap.size, 0, none⟩ = some (.int .i64 k) := by rw [hw1]; exact blk_cell (blk_new w _) 0
  have hx1 : w1.cell? ⟨w.heap.size, 1, none⟩ = some (.int .i64 v) := by rw [hw1]; exact blk_cell (blk_new w _) 1
  have p0 : w1.cell? ⟨p, 0, none⟩ = some (.slice A n c) := HR1.out.c0
  have p1 : w1.cell? ⟨p, 1, none⟩ = some (.int .u64 (nx : Int)) := HR1.out.c1
  have p0a : ∀ o, (w1.alloc o).cell? ⟨p, 0, none⟩ = some (.slice A n c) := fun o => (HR1.out.no ((Kp.refl _ _).alloc o)).c0
  have hwn : IntKind.u64.wrap ((nx : Int) + 1) = (nx : Int) + 1 := IntWalk.u64_in _ (by omega)
  clear hr hp ho hn hw1
  go_enter Tryz.func59, Tryz.ntmps59
  go_wp2_with fail
  rw [← HW1.out]
  go_upto_region 2 with fail
  go_cut [6, 7, 8, 9, 10, 11, 12, 13, 14, 15, 16, 17, 18, 19, 20] (fun _ _ _ _ _ _ _ _ _ _ _ _ _ _ _ wx => ∃ A3 c3, HpR p (.slice A3 (n + 1) c3) nx (E ++ [⟨k, v, nx⟩]) wx ∧ HpP p (.slice A n c) (.slice A3 (n + 1) c3) w wx)
  case first =>
    go_region_law (first
      | (refine stp_app elH rfl (.tmp 10) (.tmp 17) rfl rfl rfl (v := .slice A n c) (l := E) (m := [⟨k, v, nx⟩]) (HR1.out.no ((Kp.refl No w1).alloc _)).own (rdH_one ⟨k, v, nx⟩ rfl) (by rw [← HN.out]; unfold maxLen; rw [List.length_singleton]; omega) (by rw [← HN.out, List.length_singleton]; omega) ?_; intro v3 w3 m1 m2 m3; obtain ⟨A3, c3, rfl⟩ := m1.rd.shape; have B3 := m2.blk (HR1.out.no ((Kp.refl No w1).alloc _)).blk HR1.out.ne; have F3 : w3.frozen? ⟨p, 0, none⟩ = false := blk_free B3 0; have C3 : w3.cell? ⟨p, 0, none⟩ = some (.slice A n c) := blk_cell B3 0; rw [List.length_append, List.length_singleton, ← HN.out] at m1 m3 ⊢; have M1 := Lib.hid m1; have M2 := Lib.hid m2; have M3 := Lib.hid m3; have MB := Lib.hid B3; clear m1 m2 m3 B3))
    all_goals
      have hne3 : (Value.slice A3 (n + 1) c3).ownBlock ≠ some p := fun e => by
        rcases M3.out p e with h | h
        · exact HR1.out.ne h
        · have := HL.out; have := K1.out.size; have h : w1.heap.size + 1 ≤ p := by simpa using h
          omega
      have kq : Kp (fun j => j = p ∨ (Value.slice A n c).ownBlock = some j) w w3 := (((K1.out.alloc _).drew).mono (fun _ _ e => e.elim)).trans' M2.out (fun j _ e => .inr e)
      have kr : Kp (fun j => j = p ∨ (Value.slice A n c).ownBlock = some j) w (w3.setCell ⟨p, 0, none⟩ (.slice A3 (n + 1) c3)) := kq.setCell (p := ⟨p, 0, none⟩) (fun _ => .inl rfl) _
      have RR : HpR p (.slice A3 (n + 1) c3) nx (E ++ [⟨k, v, nx⟩]) (w3.setCell ⟨p, 0, none⟩ (.slice A3 (n + 1) c3)) :=
        ⟨by have := blk_set MB.out 0 (.slice A3 (n + 1) c3); simpa using this, M1.out.kp ((Kp.refl (fun j => j = p) w3).setCell (p := ⟨p, 0, none⟩) (fun _ => rfl) _) (fun g hg e => hne3 (by rw [hg, e])), hne3⟩
      have PP : HpP p (.slice A n c) (.slice A3 (n + 1) c3) w (w3.setCell ⟨p, 0, none⟩ (.slice A3 (n + 1) c3)) := ⟨kr, fun g hg => by
        rcases M3.out g hg with h | h
        · exact .inl h
        · have := K1.out.size; have h : w1.heap.size + 1 ≤ g := by simpa using h
          exact .inr (by omega)⟩
      have RR := Lib.hid RR; have PP := Lib.hid PP
      clear kq kr hne3 p0 p1 p0a hx0 hx1
      go_wp2_with fail
      go_meet
      exact ⟨A3, c3, ⟨RR.out.blk, RR.out.own.kpNo (Kp.refl _ _), RR.out.ne⟩, ⟨PP.out.kp.drewN 0, PP.out.ge⟩⟩
  case rest =>
    obtain ⟨A3, c3, hr, hp3⟩ := hcut
    have HR := Lib.hid hr; have HPP := Lib.hid hp3
    have q0 : wc.cell? ⟨p, 0, none⟩ = some (.slice A3 (n + 1) c3) := hr.c0
    have q1 : wc.cell? ⟨p, 1, none⟩ = some (.int .u64 (nx : Int)) := hr.c1
    have qf : wc.frozen? ⟨p, 1, none⟩ = false := hr.f 1
    have R2 := Lib.hid (show HpR p (.slice A3 (n + 1) c3) (nx + 1) (E ++ [⟨k, v, nx⟩]) (wc.setCell ⟨p, 1, none⟩ (.int .u64 ((nx : Int) + 1))) from
      ⟨by have := blk_set hr.blk 1 (.int .u64 ((nx : Int) + 1)); simpa using this, hr.own.kp ((Kp.refl (fun j => j = p) wc).setCell (p := ⟨p, 1, none⟩) (fun _ => rfl) _) (fun g hg e => hr.ne (by rw [hg, e])), hr.ne⟩)
    have q0' : (wc.setCell ⟨p, 1, none⟩ (.int .u64 ((nx : Int) + 1))).cell? ⟨p, 0, none⟩ = some (.slice A3 (n + 1) c3) := R2.out.c0
    have hwl : IntKind.i64.wrap (((n + 1 : Nat) : Int) - 1) = (n : Int) := by rw [IntWalk.i64_in _ (by omega)]; omega
    have hwl2 : IntKind.i64.wrap ((n : Int) + 1 - 1) = (n : Int) := by rw [IntWalk.i64_in _ (by omega)]; omega
    clear hr hp3 p0 p1 p0a hx0 hx1
    go_wp2_with fail
    refine (hpup_any R2.out n (by rw [List.length_append, ← HN.out]; simp) (by rw [List.length_append, ← HN.out]; simp; omega) (by have := UpI.push HO.out ⟨k, v, nx⟩; rwa [← HN.out] at this)).mono ?_
    rintro e w5 ⟨rfl, E', hp5, ho5, s5⟩
    have HS5 := Lib.hid s5
    have HP5 := Lib.hid (hp5.trans (HP.out.append_right [⟨k, v, nx⟩]))
    have HO5 := Lib.hid ho5
    clear hp5 ho5 s5
    go_wp2_with fail
    go_end0
    have kk : Kp (fun j => j = p ∨ (Value.slice A n c).ownBlock = some j) w w5 := ((HPP.out.kp.setCell (p := ⟨p, 1, none⟩) (fun _ => .inl rfl) _)).trans' HS5.out.kp (fun j hj e => by
      rcases HPP.out.ge j e with h | h
      · exact .inr h
      · omega)
    exact ⟨rfl, _, ⟨E', HP5.out, HO5.out, HS5.out.r⟩, ⟨kk, HPP.out.ge⟩⟩
end Go.Proofs.YtmipnicdlldjnaaGreatDoor

namespace Go.Proofs.YtmipnicdlldjnaaGreatDoor
set_option linter.unusedVariables false
set_option linter.unusedSimpArgs false
open Go.RowKit

theorem Ent.lt_trans {a b c : Ent} (h : a.lt b) (g : b.lt c) : a.lt c := by unfold Ent.lt at *; omega
/-- Which is least of one, and of the first j of the two below it. -/
structure LsP (E : List Ent) (i l j : Nat) : Prop where
  at_ : l = i ∨ (0 < l ∧ (l - 1) / 2 = i ∧ l < E.length ∧ ∀ a b, E[i]? = some a → E[l]? = some b → b.lt a)
  min : ∀ c, 2 * i + 1 ≤ c → c < 2 * i + 1 + j → ∀ x y, E[c]? = some x → E[l]? = some y → ¬ x.lt y
section
variable {E : List Ent} {i l j : Nat}
theorem LsP.start : LsP E i i 0 := ⟨.inl rfl, fun c h1 h2 => by omega⟩
theorem LsP.out (h : LsP E i l j) (hc : E.length ≤ 2 * i + 1 + j) : LsP E i l (j + 1) := ⟨h.at_, fun c h1 h2 x y hx hy => by
  have := (List.getElem?_eq_some_iff.1 hx).1
  exact h.min c h1 (by omega) x y hx hy⟩
theorem LsP.keep (h : LsP E i l j) {a b : Ent} (ha : E[2 * i + 1 + j]? = some a) (hb : E[l]? = some b) (hn : ¬ a.lt b) : LsP E i l (j + 1) := ⟨h.at_, fun c h1 h2 x y hx hy => by
  rcases Nat.lt_or_ge c (2 * i + 1 + j) with h3 | h3
  · exact h.min c h1 h3 x y hx hy
  · obtain rfl : c = 2 * i + 1 + j := by omega
    rw [ha] at hx; rw [hb] at hy
    cases hx; cases hy; exact hn⟩
theorem LsP.new (h : LsP E i l j) (hj : j < 2) {a b : Ent} (ha : E[2 * i + 1 + j]? = some a) (hb : E[l]? = some b) (hl : a.lt b) : LsP E i (2 * i + 1 + j) (j + 1) := by
  refine ⟨.inr ⟨by omega, by omega, (List.getElem?_eq_some_iff.1 ha).1, fun x y hx hy => ?_⟩, fun c h1 h2 x y hx hy => ?_⟩
  · rw [ha] at hy; cases hy
    rcases h.at_ with e | ⟨_, _, _, h3⟩
    · rw [e, hx] at hb; cases hb; exact hl
    · exact Ent.lt_trans hl (h3 x b hx hb)
  · rw [ha] at hy; cases hy
    rcases Nat.lt_or_ge c (2 * i + 1 + j) with h3 | h3
    · exact Ent.nlt_of (h.min c h1 h3 x b hx hb) hl
    · obtain rfl : c = 2 * i + 1 + j := by omega
      rw [ha] at hx; cases hx; exact Ent.nlt_irrefl _
theorem LsP.done (h : LsP E i l 2) (he : l = i) (hd : DnI E i) : HeapO E := hd.done fun j a b hj hp ha hb => by
  subst he
  exact h.min j (by omega) (by omega) a b ha hb
theorem LsP.next (h : LsP E i l 2) (he : l ≠ i) (hd : DnI E i) : l < E.length ∧ i < l ∧ ∀ a b, E[i]? = some a → E[l]? = some b → DnI (swapL E i l a b) l := by
  rcases h.at_ with e | ⟨h1, h2, h3, h4⟩
  · exact absurd e he
  · exact ⟨h3, by omega, fun a b ha hb => hd.step h1 h2 ha hb (h4 a b ha hb) fun j x hj hp hx => h.min j (by omega) (by omega) x b hx hb⟩
theorem LsP.lt (h : LsP E i l j) (hi : i < E.length) : l < E.length := by
  rcases h.at_ with e | ⟨_, _, h3, _⟩
  · omega
  · exact h3
theorem LsP.le (h : LsP E i l j) : l ≤ 2 * i + 2 := by
  rcases h.at_ with e | ⟨_, h2, _, _⟩ <;> omega
end

set_option maxHeartbeats 2000000 in
set_option maxRecDepth 100000 in
theorem hpdown_any {p nx : Nat} {V : Value} {E : List Ent} {w : World} (h : HpR p V nx E w) (hE : E.length ≤ 4000000000) (hd : DnI E 0) :
    Calls Tryz.prog 87 #[.pointer (some ⟨p, 0, none⟩), .int .i64 0] w fun e w' => e = .returned (.tuple #[]) ∧ ∃ E', E'.Perm E ∧ HeapO E' ∧ HpS p V nx E' w w' := by
  obtain ⟨A, cap, rfl⟩ := h.own.rd.shape
  obtain ⟨n, hn⟩ : ∃ n, n = E.length := ⟨_, rfl⟩
  rw [← hn] at h hE ⊢
  have HH := Lib.hid h; have HD := Lib.hid hd; have HN := Lib.hid hn
  have i0 : ∀ (x0 x1 : Value) (w : World), (Instr.index 128 (.agg #[x0, x1]) (.int .i64 0)).run Tryz.prog w = .ok x0 w := fun x0 x1 w => by kernel_rfl
  have i1 : ∀ (x0 x1 : Value) (w : World), (Instr.index 128 (.agg #[x0, x1]) (.int .i64 1)).run Tryz.prog w = .ok x1 w := fun x0 x1 w => by kernel_rfl
  clear h hd hn
  go_enter Tryz.func87, Tryz.ntmps87
  go_wp2_with fail
  go_loopg [1] (n + 1) (fun g2 iv wx => ∃ (k : Nat) (E' : List Ent), g2 = n + 1 - k ∧ iv = .int .i64 k ∧ k ≤ n ∧ E'.Perm E ∧ DnI E' k ∧ HpS p (.slice A n cap) nx E' w wx)
  case atStart => exact ⟨0, E, rfl, rfl, by omega, List.Perm.refl _, HD.out, HpS.refl HH.out⟩
  case round =>
    obtain ⟨k, E', hg2, rfl, hk, hp, hd, hs⟩ := hrel
    have HP := Lib.hid hp; have HDK := Lib.hid hd; have HS := Lib.hid hs
    have hl : E'.length = n := by rw [hp.length_eq, HN.out]
    have HL := Lib.hid hl
    have hm1 : IntKind.i64.wrap (2 * (k : Int)) = 2 * (k : Int) := IntWalk.i64_in _ (by omega)
    have hm2 : IntKind.i64.wrap (2 * (k : Int) + 1) = ((2 * k + 1 : Nat) : Int) := by rw [IntWalk.i64_in _ (by omega)]; omega
    have hm3 : IntKind.i64.wrap (2 * (k : Int) + 2) = ((2 * k + 2 : Nat) : Int) := by rw [IntWalk.i64_in _ (by omega)]; omega
    clear hp hd hs hl
    obtain ⟨G, rfl⟩ : ∃ G : Nat, G = gk := ⟨_, rfl⟩
    go_wp2_with fail
    obtain ⟨wo, rfl⟩ : ∃ wo : World, wo = wr := ⟨_, rfl⟩
    go_loopg [5, 18] 3 (fun g3 lv jv wx => ∃ (j l : Nat), g3 = 3 - j ∧ jv = .int .i64 j ∧ j ≤ 2 ∧ lv = .int .i64 l ∧ LsP E' k l j ∧ HpS p (.slice A n cap) nx E' w wx)
    case atStart => exact ⟨0, k, rfl, rfl, by omega, rfl, LsP.start, HS.out⟩
    case round =>
      clear HS
      obtain ⟨j, l, hg3, rfl, hj, rfl, hls, hs⟩ := hrel
      have HLP := Lib.hid hls; have HS := Lib.hid hs
      have hp0 : wr.cell? ⟨p, 0, none⟩ = some (.slice A n cap) := hs.r.c0
      have hll := hls.le
      by_cases hlt : j < 2
      · have hltI : (j : Int) < 2 := by omega
        have hwj : IntKind.i64.wrap ((j : Int) + 1) = (j : Int) + 1 := IntWalk.i64_in _ (by omega)
        obtain ⟨c, hc⟩ : ∃ c, c = 2 * k + 1 + j := ⟨_, rfl⟩
        have hidx : ∀ w, (Instr.index 128 (.agg #[.int .i64 ((2 * k + 1 : Nat) : Int), .int .i64 ((2 * k + 2 : Nat) : Int)]) (.int .i64 (j : Int))).run Tryz.prog w = .ok (.int .i64 (c : Int)) w := by
          intro w
          obtain rfl | rfl : j = 0 ∨ j = 1 := by omega
          · rw [hc]; exact i0 _ _ w
          · rw [hc]; exact i1 _ _ w
        have hidx2 : ∀ w, (Instr.index 128 (.agg #[.int .i64 (2 * (k : Int) + 1), .int .i64 (2 * (k : Int) + 2)]) (.int .i64 (j : Int))).run Tryz.prog w = .ok (.int .i64 (c : Int)) w := by
          intro w
          have := hidx w
          simpa using this
        have HC := Lib.hid hc
        have hc0I : (0 : Int) ≤ (c : Int) := by omega
        have hl0I : (0 : Int) ≤ (l : Int) := by omega
        by_cases hcn : c < n
        · have hcI : (c : Int) < (n : Int) := by omega
          have hcd : decide ((c : Int) < (n : Int)) = true := by simp; omega
          have hcd2 : decide (c < n) = true := by simp; omega
          have hlE := hls.lt (by rw [HL.out]; omega)
          rw [HL.out] at hlE
          have hlI : (l : Int) < (n : Int) := by omega
          obtain ⟨a, ha⟩ : ∃ a, E'[c]? = some a := ⟨_, List.getElem?_eq_getElem (by rw [HL.out]; exact hcn)⟩
          obtain ⟨b, hb⟩ : ∃ b, E'[l]? = some b := ⟨_, List.getElem?_eq_getElem (by rw [HL.out]; exact hlE)⟩
          have HA := Lib.hid (show E'[2 * k + 1 + j]? = some a by rw [← hc]; exact ha)
          have HB := Lib.hid hb
          rcases hs.r.own.b with ⟨_, he⟩ | ⟨g, cap', hv, _, _, _⟩
          · rw [he] at ha; simp at ha
          simp only [Value.slice.injEq] at hv
          obtain ⟨rfl, hzz, rfl⟩ := hv
          clear hzz
          obtain ⟨a0, a1, a2⟩ := ownH_at hs.r.own ha
          obtain ⟨b0, b1, b2⟩ := ownH_at hs.r.own hb
          obtain ⟨t, ht⟩ : ∃ t, t = decide (a.lt b) := ⟨_, rfl⟩
          have HLS := Lib.hid (hpless_any a b t ht)
          have HT := Lib.hid ht
          unfold Ent.val at HLS
          clear ha hb ht hs hls hc hcn hlE hlt
          have p0 : wr.drew.cell? ⟨p, 0, none⟩ = some (.slice (some ⟨g, 0, none⟩) n cap) := hp0
          have a0' : wr.drew.cell? ⟨g, c * 3, none⟩ = some (.int .i64 a.k) := a0
          have a1' : wr.drew.cell? ⟨g, c * 3 + 1, none⟩ = some (.int .i64 a.v) := a1
          have a2' : wr.drew.cell? ⟨g, c * 3 + 2, none⟩ = some (.int .u64 (a.q : Int)) := a2
          have b0' : wr.drew.cell? ⟨g, l * 3, none⟩ = some (.int .i64 b.k) := b0
          have b1' : wr.drew.cell? ⟨g, l * 3 + 1, none⟩ = some (.int .i64 b.v) := b1
          have b2' : wr.drew.cell? ⟨g, l * 3 + 2, none⟩ = some (.int .u64 (b.q : Int)) := b2
          go_wp2_with fail
          go_region_held3 (fun w' => w'.cell? ⟨p, 0, none⟩ = some (.slice (some ⟨g, 0, none⟩) n cap) ∧ w'.cell? ⟨g, c * 3, none⟩ = some (.int .i64 a.k) ∧ w'.cell? ⟨g, c * 3 + 1, none⟩ = some (.int .i64 a.v) ∧ w'.cell? ⟨g, c * 3 + 2, none⟩ = some (.int .u64 (a.q : Int)) ∧ w'.cell? ⟨g, l * 3, none⟩ = some (.int .i64 b.k) ∧ w'.cell? ⟨g, l * 3 + 1, none⟩ = some (.int .i64 b.v) ∧ w'.cell? ⟨g, l * 3 + 2, none⟩ = some (.int .u64 (b.q : Int)))
            (first | exact ⟨by assumption, by assumption, by assumption, by assumption, by assumption, by assumption, by assumption⟩ | exact ⟨p0, a0', a1', a2', b0', b1', b2'⟩)
            (first
              | (go_at_call 102; refine (HLS.out wr.drew).mono ?_; rintro e w8 ⟨rfl, k8⟩; have t0 := k8.cellS p0 (no_no _); have t1 := k8.cellS a0' (no_no _); have t2 := k8.cellS a1' (no_no _); have t3 := k8.cellS a2' (no_no _); have t4 := k8.cellS b0' (no_no _); have t5 := k8.cellS b1' (no_no _); have t6 := k8.cellS b2' (no_no _); have K8 := Lib.hid ((Kp.refl No wr).drew.no k8); clear k8))
          have S8 := Lib.hid (HS.out.no K8.out)
          clear p0 a0' a1' a2' b0' b1' b2' t0 t1 t2 t3 t4 t5 t6 hp0 a0 a1 a2 b0 b1 b2
          cases t with
          | true =>
            have LN := Lib.hid (HLP.out.new (by omega) HA.out HB.out (by have := HT.out; simpa using this.symm))
            rw [← HC.out] at LN
            go_wp2_with fail
            go_roundg (3 - (j + 1))
            case measure => omega
            case rel => exact ⟨j + 1, c, rfl, by go_num, by omega, rfl, LN.out, S8.out⟩
          | false =>
            have LN := Lib.hid (HLP.out.keep HA.out HB.out (by have := HT.out; simpa using this))
            go_wp2_with fail
            go_roundg (3 - (j + 1))
            case measure => omega
            case rel => exact ⟨j + 1, l, rfl, by go_num, by omega, rfl, LN.out, S8.out⟩
        · have hcI : ¬ (c : Int) < (n : Int) := by omega
          have hcd : decide ((c : Int) < (n : Int)) = false := by simp; omega
          have hcd2 : decide (c < n) = false := by simp; omega
          have LN := Lib.hid (hls.out (by rw [HL.out, ← hc]; omega))
          clear hs hls hc hcn hlt
          go_wp2_with fail
          go_quiet (fail)
          go_wp2_with fail
          go_roundg (3 - (j + 1))
          case measure => omega
          case rel => exact ⟨j + 1, l, rfl, by go_num, by omega, rfl, LN.out, HS.out.no ((Kp.refl _ _).drewN _)⟩
      · obtain rfl : j = 2 := by omega
        by_cases he : l = k
        · have heb : ((l : Int) == (k : Int)) = true := by simp [he]
          have heb2 : (l == k) = true := by simp [he]
          have HO := Lib.hid (HLP.out.done he HDK.out)
          clear hs hls he hlt
          go_wp2_with fail
          (try simp only [Exit.inBlock, Exit.then])
          refine bodyPost_ret (results_none rfl _ _ _) rfl ?_
          exact ⟨rfl, E', HP.out, HO.out, HS.out⟩
        · have heb : ((l : Int) == (k : Int)) = false := by simp; omega
          have heb2 : (l == k) = false := by simp; omega
          obtain ⟨h1, h2, h3⟩ := HLP.out.next he HDK.out
          obtain ⟨a, ha⟩ : ∃ a, E'[k]? = some a := ⟨_, List.getElem?_eq_getElem (by omega)⟩
          obtain ⟨b, hb⟩ : ∃ b, E'[l]? = some b := ⟨_, List.getElem?_eq_getElem h1⟩
          have HA := Lib.hid ha; have HB := Lib.hid hb
          have DN := Lib.hid (h3 a b ha hb)
          have PN := Lib.hid ((swapL_perm ha hb).trans HP.out)
          rw [HL.out] at h1
          clear h3 ha hb hs hls he hlt
          go_wp2_with fail
          refine (hpswap_any HS.out.r k l a b HA.out HB.out).mono ?_
          rintro e w9 ⟨rfl, s9⟩
          have S9 := Lib.hid (HS.out.trans s9)
          clear s9
          go_wp2_with fail
          go_roundg (n + 1 - l)
          case measure => omega
          case rel => exact ⟨l, _, rfl, rfl, by omega, PN.out, DN.out, S9.out⟩
end Go.Proofs.YtmipnicdlldjnaaGreatDoor

namespace Go.Proofs.YtmipnicdlldjnaaGreatDoor
set_option linter.unusedVariables false
set_option linter.unusedSimpArgs false
open Go.RowKit

theorem hpnew_any (w : World) : Calls Tryz.prog 58 #[] w fun e w' => e = .returned (.pointer (some ⟨w.heap.size, 0, none⟩)) ∧ HpM w.heap.size (.slice none 0 0) 0 [] w' ∧ Kp No w w' ∧ w'.heap.size = w.heap.size + 1 := by
  have H := Lib.hid (show HpM w.heap.size (.slice none 0 0) 0 [] (w.alloc (.cells #[.slice none 0 0, .int .u64 0] 134)) from
    ⟨[], List.Perm.refl _, HeapO.nil, blk_new w _, Own.nil _ _ _, by simp [Value.ownBlock]⟩)
  go_enter Tryz.func58, Tryz.ntmps58
  go_wp2_with fail
  go_ret
  exact ⟨rfl, H.out, (Kp.refl _ _).alloc _, by simp⟩
set_option maxRecDepth 100000 in
theorem hplen_any {p nx : Nat} {V : Value} {E : List Ent} {w : World} (h : HpR p V nx E w) : Calls Tryz.prog 103 #[.pointer (some ⟨p, 0, none⟩)] w fun e w' => e = .returned (.int .i64 (E.length : Int)) ∧ w' = w := by
  obtain ⟨A, c, rfl⟩ := h.own.rd.shape
  have p0 : w.cell? ⟨p, 0, none⟩ = some (.slice A E.length c) := h.c0
  obtain ⟨n, hn⟩ : ∃ n, n = E.length := ⟨_, rfl⟩
  rw [← hn] at p0 ⊢
  clear h hn
  go_enter Tryz.func103, Tryz.ntmps103
  go_wp2_with fail
  go_ret
  exact ⟨rfl, rfl⟩
def topV (E : List Ent) : Value := match E with
  | [] => .tuple #[.agg #[.int .i64 0, .int .i64 0], .bool false]
  | a :: _ => .tuple #[.agg #[.int .i64 a.k, .int .i64 a.v], .bool true]
theorem box_set2 {w : World} {b : Nat} {a0 a1 : Value} {t : TypeId} (h : w.heap[b]? = some (.cells #[a0, a1] t (0, 0))) (v0 v1 : Value) : ((w.setCell ⟨b, 0, none⟩ v0).setCell ⟨b, 1, none⟩ v1).heap[b]? = some (.cells #[v0, v1] t (0, 0)) := by
  have := blk_set (blk_set h 0 v0) 1 v1
  simpa using this
theorem box_at {w : World} {b i : Nat} {cs : Array Value} {t : TypeId} (h : w.heap[b]? = some (.cells cs t (0, 0))) (hi : i < cs.size) (v : Value) : (w.setCell ⟨b, i, none⟩ v).cell? ⟨b, i, none⟩ = some v := by
  rw [blk_cell (blk_set h i v)]; simp [hi]
set_option maxHeartbeats 1000000 in
set_option maxRecDepth 100000 in
theorem hppeek_any {p nx : Nat} {V : Value} {E : List Ent} {w : World} (h : HpR p V nx E w) : Calls Tryz.prog 85 #[.pointer (some ⟨p, 0, none⟩)] w fun e w' => e = .returned (topV E) ∧ Kp No w w' := by
  obtain ⟨bx, hbx⟩ : ∃ bx, bx = w.heap.size := ⟨_, rfl⟩
  obtain ⟨w1, hw1⟩ : ∃ w1, w1 = w.alloc (.cells #[.int .i64 0, .int .i64 0] 105) := ⟨_, rfl⟩
  have HW := Lib.hid hw1
  have K1 := Lib.hid (show Kp No w w1 by rw [hw1]; exact (Kp.refl _ _).alloc _)
  have BX := Lib.hid (show w1.heap[w.heap.size]? = some (.cells #[.int .i64 0, .int .i64 0] 105 (0, 0)) by rw [hw1]; exact blk_new w _)
  have H1 := Lib.hid (h.no K1.out)
  have hpl := h.lt
  have HLN := Lib.hid (hplen_any H1.out)
  obtain ⟨A, c, rfl⟩ := h.own.rd.shape
  have p0 : w1.cell? ⟨p, 0, none⟩ = some (.slice A E.length c) := H1.out.c0
  have hf0 : w1.frozen? ⟨w.heap.size, 0, none⟩ = false := blk_free BX.out 0
  have hf1 : w1.frozen? ⟨w.heap.size, 1, none⟩ = false := blk_free BX.out 1
  have hg0 : w1.cell? ⟨w.heap.size, 0, none⟩ = some (.int .i64 0) := blk_cell BX.out 0
  have hg1 : w1.cell? ⟨w.heap.size, 1, none⟩ = some (.int .i64 0) := blk_cell BX.out 1
  have hs0 := fun v => box_at (i := 0) BX.out (by decide) v
  have hs1 := fun v0 v => box_at (i := 1) (blk_set BX.out 0 v0) (by simp) v
  have KE := Lib.hid (fun (v0 v1 : Value) => show Kp No w ((w1.setCell ⟨w.heap.size, 0, none⟩ v0).setCell ⟨w.heap.size, 1, none⟩ v1) from
    (K1.out.setCell (p := ⟨w.heap.size, 0, none⟩) (fun e => absurd e (Nat.lt_irrefl _)) _).setCell (p := ⟨w.heap.size, 1, none⟩) (fun e => absurd e (Nat.lt_irrefl _)) _)
  clear h hbx hw1
  rcases E with _ | ⟨a, E⟩
  · go_enter Tryz.func85, Tryz.ntmps85
    go_wp2_with (go_at_call 103; rw [← HW.out]; refine HLN.out.mono ?_; rintro e wz ⟨rfl, hwz⟩; rw [hwz]; clear hwz)
    exact bodyPost_ret (v := .tuple #[.agg #[.int .i64 0, .int .i64 0], .bool false]) (by simp [results, Tryz.results85, go_sem, hs0, hs1]) rfl ⟨rfl, KE.out _ _⟩
  · rcases H1.out.own.b with ⟨_, he⟩ | ⟨g, cap', hv, _, _, _⟩
    · simp at he
    simp only [Value.slice.injEq] at hv
    obtain ⟨rfl, hzz, rfl⟩ := hv
    clear hzz
    obtain ⟨a0, a1, a2⟩ := ownH_at H1.out.own (i := 0) (x := a) rfl
    simp only [Nat.zero_mul, Nat.zero_add] at a0 a1 a2
    obtain ⟨n, hn⟩ : ∃ n, n = (a :: E).length := ⟨_, rfl⟩
    have hn0 : 0 < n := by rw [hn]; simp
    have hn0b : ((n : Int) == 0) = false := by simp; omega
    have hn0c : (n == 0) = false := by simp; omega
    rw [← hn] at HLN p0
    have hgw := H1.out.own.lt (g := g) rfl
    clear hn
    go_enter Tryz.func85, Tryz.ntmps85
    go_wp2_with (go_at_call 103; rw [← HW.out]; refine HLN.out.mono ?_; rintro e wz ⟨rfl, hwz⟩; rw [hwz]; clear hwz)
    exact bodyPost_ret (v := .tuple #[.agg #[.int .i64 a.k, .int .i64 a.v], .bool true]) (by simp [results, Tryz.results85, go_sem, hs0, hs1]) rfl ⟨rfl, KE.out _ _⟩
end Go.Proofs.YtmipnicdlldjnaaGreatDoor

namespace Go.Proofs.YtmipnicdlldjnaaGreatDoor
set_option linter.unusedVariables false
set_option linter.unusedSimpArgs false
open Go.RowKit

/-- What Pop answers, of a heap that holds M. -/
def HpO (p nx : Nat) (V : Value) (M : List Ent) (w : World) (e : Ending) (w' : World) : Prop :=
  (M = [] ∧ e = .returned (.tuple #[.agg #[.int .i64 0, .int .i64 0], .bool false]) ∧ HpM p V nx [] w' ∧ Kp No w w') ∨
  ∃ a M' V', M.Perm (a :: M') ∧ (∀ y ∈ M', ¬ y.lt a) ∧ e = .returned (.tuple #[.agg #[.int .i64 a.k, .int .i64 a.v], .bool true]) ∧ HpM p V' nx M' w' ∧ HpP p V V' w w'
set_option maxHeartbeats 1000000 in
set_option maxRecDepth 100000 in
theorem hppop_any {p nx : Nat} {V : Value} {M : List Ent} {w : World} (h : HpM p V nx M w) (hM : M.length ≤ 2000000000) : Calls Tryz.prog 60 #[.pointer (some ⟨p, 0, none⟩)] w (HpO p nx V M w) := by
  obtain ⟨E, hp, ho, hr⟩ := h
  have hEl : E.length ≤ 2000000000 := by rw [hp.length_eq]; exact hM
  have HP := Lib.hid hp; have HO := Lib.hid ho
  obtain ⟨w1, hw1⟩ : ∃ w1, w1 = w.alloc (.cells #[.int .i64 0, .int .i64 0] 105) := ⟨_, rfl⟩
  have HW := Lib.hid hw1
  have K1 := Lib.hid (show Kp No w w1 by rw [hw1]; exact (Kp.refl _ _).alloc _)
  have BX := Lib.hid (show w1.heap[w.heap.size]? = some (.cells #[.int .i64 0, .int .i64 0] 105 (0, 0)) by rw [hw1]; exact blk_new w _)
  have H1 := Lib.hid (hr.no K1.out)
  have hpl := hr.lt
  have HOW := Lib.hid (fun g (hg : V.ownBlock = some g) => hr.own.lt hg)
  have HPK := Lib.hid (hppeek_any H1.out)
  clear hp ho hr hw1 hM
  rcases E with _ | ⟨a, E⟩
  · have HM := Lib.hid (show M = [] from (List.Perm.nil_eq HP.out).symm)
    unfold topV at HPK
    simp only at HPK
    go_enter Tryz.func60, Tryz.ntmps60
    go_wp2_with fail
    rw [← HW.out]
    refine HPK.out.mono ?_
    rintro e w2 ⟨rfl, k2⟩
    have K2 := Lib.hid (k2.alloc (.cells #[.int .i64 0, .int .i64 0] 105))
    obtain ⟨w3, hw3⟩ : ∃ w3, w3 = w2.alloc (.cells #[.int .i64 0, .int .i64 0] 105) := ⟨_, rfl⟩
    rw [← hw3] at K2
    have BX3 := Lib.hid (K2.out.blk BX.out (no_no _))
    have HR3 := Lib.hid (H1.out.no K2.out)
    have hf0 : w3.frozen? ⟨w.heap.size, 0, none⟩ = false := blk_free BX3.out 0
    have hf1 : w3.frozen? ⟨w.heap.size, 1, none⟩ = false := blk_free BX3.out 1
    have hg0 : w3.cell? ⟨w.heap.size, 0, none⟩ = some (.int .i64 0) := blk_cell BX3.out 0
    have hg1 : w3.cell? ⟨w.heap.size, 1, none⟩ = some (.int .i64 0) := blk_cell BX3.out 1
    have hs0 := fun v => box_at (i := 0) BX3.out (by decide) v
    have hs1 := fun v0 v => box_at (i := 1) (blk_set BX3.out 0 v0) (by simp) v
    have hsz := k2.size
    have hsz1 : w1.heap.size = w.heap.size + 1 := by rw [HW.out]; simp
    have KE := Lib.hid (fun (v0 v1 : Value) => show Kp No w ((w3.setCell ⟨w.heap.size, 0, none⟩ v0).setCell ⟨w.heap.size, 1, none⟩ v1) from
      ((K1.out.no K2.out).setCell (p := ⟨w.heap.size, 0, none⟩) (fun e => absurd e (Nat.lt_irrefl _)) _).setCell (p := ⟨w.heap.size, 1, none⟩) (fun e => absurd e (Nat.lt_irrefl _)) _)
    have hx0 : w3.cell? ⟨w2.heap.size, 0, none⟩ = some (.int .i64 0) := by rw [hw3]; exact blk_cell (blk_new w2 _) 0
    have hx1 : w3.cell? ⟨w2.heap.size, 1, none⟩ = some (.int .i64 0) := by rw [hw3]; exact blk_cell (blk_new w2 _) 1
    have HW3 := Lib.hid hw3
    rw [hw3] at hf0 hf1 hg0 hg1 hs0 hs1 hx0 hx1
    clear hw3 k2
    go_wp2_with fail
    refine bodyPost_ret (v := .tuple #[.agg #[.int .i64 0, .int .i64 0], .bool false]) (by simp [results, Tryz.results60, go_sem, hs0, hs1]) rfl (.inl ⟨HM.out, rfl, ?_, ?_⟩)
    · have := KE.out (.int .i64 0) (.int .i64 0)
      rw [HW3.out] at this
      refine ⟨[], List.Perm.refl _, HeapO.nil, ?_⟩
      have hq := HR3.out
      rw [HW3.out] at hq
      refine hq.kp (S := fun k => k = w.heap.size) (((Kp.refl (fun k => k = w.heap.size) _).setCell (p := ⟨w.heap.size, 0, none⟩) (fun _ => rfl) _).setCell (p := ⟨w.heap.size, 1, none⟩) (fun _ => rfl) _) (by omega) (fun g hg e => ?_)
      have := HOW.out g hg; omega
    · have := KE.out (.int .i64 0) (.int .i64 0)
      rw [HW3.out] at this
      exact this
  · rcases H1.out.own.b with ⟨_, he⟩ | ⟨g, cap', hv, _, hlc, _⟩
    · simp at he
    obtain ⟨n, hn⟩ : ∃ n, n = E.length := ⟨_, rfl⟩
    have hn1 : (a :: E).length = n + 1 := by rw [hn]; rfl
    rw [hn1] at hv hEl hlc
    subst hv
    have HN1 := Lib.hid hn1
    obtain ⟨b, hb⟩ : ∃ b, (a :: E)[n]? = some b := ⟨_, List.getElem?_eq_getElem (by rw [hn1]; omega)⟩
    have HB := Lib.hid hb
    have hgw := HOW.out g rfl
    have hgp : g ≠ p := fun e => H1.out.ne (by rw [e]; rfl)
    have hw : IntKind.i64.wrap (((n + 1 : Nat) : Int) - 1) = (n : Int) := by rw [IntWalk.i64_in _ (by omega)]; omega
    have hw2 : IntKind.i64.wrap ((n : Int) + 1 - 1) = (n : Int) := by rw [IntWalk.i64_in _ (by omega)]; omega
    unfold topV at HPK
    simp only at HPK
    obtain ⟨hdn, hpm⟩ := HO.out.cut hn1 rfl hb
    have HDN := Lib.hid hdn; have HPM := Lib.hid hpm
    have hsl := fun w => run_slice_hi elH g 0 (n + 1) cap' n (by omega) (n : Int) rfl w
    clear hn hn1 hb hdn hpm
    go_enter Tryz.func60, Tryz.ntmps60
    go_wp2_with fail
    rw [← HW.out]
    refine HPK.out.mono ?_
    rintro e w2 ⟨rfl, k2⟩
    obtain ⟨b4, hb4⟩ : ∃ b4, b4 = w2.heap.size := ⟨_, rfl⟩
    obtain ⟨w3, hw3⟩ : ∃ w3, w3 = w2.alloc (.cells #[.int .i64 a.k, .int .i64 a.v] 105) := ⟨_, rfl⟩
    have K3 := Lib.hid (show Kp No w1 w3 by rw [hw3]; exact k2.alloc _)
    have BX3 := Lib.hid (K3.out.blk BX.out (no_no _))
    have B4 := Lib.hid (show w3.heap[b4]? = some (.cells #[.int .i64 a.k, .int .i64 a.v] 105 (0, 0)) by rw [hw3, hb4]; exact blk_new w2 _)
    have HR3 := Lib.hid (H1.out.no K3.out)
    have hsz1 : w1.heap.size = w.heap.size + 1 := by rw [HW.out]; simp
    have hb4s : w.heap.size < b4 := by rw [hb4]; have := k2.size; omega
    have hp0 : w3.cell? ⟨p, 0, none⟩ = some (.slice (some ⟨g, 0, none⟩) (n + 1) cap') := HR3.out.c0
    have HW3 := Lib.hid hw3; have HB4 := Lib.hid hb4
    rw [hw3] at hp0
    clear k2 hw3 hb4
    go_wp2_with fail
    rw [← HW3.out, ← HB4.out]
    refine (hpswap_any HR3.out 0 n a b rfl HB.out).mono ?_
    rintro e w5 ⟨rfl, s5⟩
    have S5 := Lib.hid s5
    have hq0 : w5.cell? ⟨p, 0, none⟩ = some (.slice (some ⟨g, 0, none⟩) (n + 1) cap') := s5.r.c0
    have hqf : w5.frozen? ⟨p, 0, none⟩ = false := s5.r.f 0
    -- behind the cut
    have R6 := Lib.hid (show HpR p (.slice (some ⟨g, 0, none⟩) n cap') nx ((swapL (a :: E) 0 n a b).take n) (w5.setCell ⟨p, 0, none⟩ (.slice (some ⟨g, 0, none⟩) n cap')) by
      have hl : ((swapL (a :: E) 0 n a b).take n).length = n := by rw [List.length_take, swapL_len, HN1.out]; omega
      rcases s5.r.own.b with ⟨hv, _⟩ | ⟨g', c', hv, hcm, _, hob⟩
      · simp at hv
      simp only [Value.slice.injEq, Option.some.injEq, Addr.mk.injEq] at hv
      obtain ⟨⟨rfl, _, _⟩, _, rfl⟩ := hv
      have o6 := (hob.take n).own hcm
      rw [hl] at o6
      refine ⟨by have := blk_set s5.r.blk 0 (.slice (some ⟨g, 0, none⟩) n cap'); simpa using this, o6.kp ((Kp.refl (fun j => j = p) w5).setCell (p := ⟨p, 0, none⟩) (fun _ => rfl) _) (fun g' hg' e => hgp (by simp [Value.ownBlock] at hg'; rw [hg', e])), fun e => hgp (by simpa [Value.ownBlock] using e)⟩)
    have K6 := Lib.hid (show Kp (fun j => j = p ∨ (Value.slice (some ⟨g, 0, none⟩) (n + 1) cap').ownBlock = some j) w3 (w5.setCell ⟨p, 0, none⟩ (.slice (some ⟨g, 0, none⟩) n cap')) from
      (s5.kp.mono (fun _ _ h => .inr h)).setCell (p := ⟨p, 0, none⟩) (fun _ => .inl rfl) _)
    clear s5 hp0
    go_wp2_with fail
    refine (hpdown_any R6.out (by rw [List.length_take, swapL_len, HN1.out]; omega) HDN.out).mono ?_
    rintro e w7 ⟨rfl, E', hp7, ho7, s7⟩
    have hgg : g ≠ w.heap.size := by omega
    have K7 := Lib.hid (show Kp (fun j => j = p ∨ (Value.slice (some ⟨g, 0, none⟩) (n + 1) cap').ownBlock = some j) w3 w7 from K6.out.trans (s7.kp.mono (fun _ _ h => .inr h)))
    have HP7 := Lib.hid hp7; have HO7 := Lib.hid ho7; have S7 := Lib.hid s7
    have BX7 := Lib.hid (K7.out.blk BX3.out (by rintro (e | e); · omega
                                                · simp [Value.ownBlock] at e; omega))
    have hgb4 : g ≠ b4 := by omega
    have B47 := Lib.hid (K7.out.blk B4.out (by rintro (e | e); · omega
                                               · simp [Value.ownBlock] at e; omega))
    have hx0 : w7.cell? ⟨b4, 0, none⟩ = some (.int .i64 a.k) := blk_cell B47.out 0
    have hx1 : w7.cell? ⟨b4, 1, none⟩ = some (.int .i64 a.v) := blk_cell B47.out 1
    have hf0 : w7.frozen? ⟨w.heap.size, 0, none⟩ = false := blk_free BX7.out 0
    have hf1 : w7.frozen? ⟨w.heap.size, 1, none⟩ = false := blk_free BX7.out 1
    have hg0 : w7.cell? ⟨w.heap.size, 0, none⟩ = some (.int .i64 0) := blk_cell BX7.out 0
    have hg1 : w7.cell? ⟨w.heap.size, 1, none⟩ = some (.int .i64 0) := blk_cell BX7.out 1
    have hs0 := fun v => box_at (i := 0) BX7.out (by decide) v
    have hs1 := fun v0 v => box_at (i := 1) (blk_set BX7.out 0 v0) (by simp) v
    clear hp7 ho7 s7 hq0 hqf
    have KW := Lib.hid (show Kp (fun j => j = p ∨ (Value.slice (some ⟨g, 0, none⟩) (n + 1) cap').ownBlock = some j) w ((w7.setCell ⟨w.heap.size, 0, none⟩ (.int .i64 a.k)).setCell ⟨w.heap.size, 1, none⟩ (.int .i64 a.v)) from by
      have k0 : Kp (fun j => j = p ∨ (Value.slice (some ⟨g, 0, none⟩) (n + 1) cap').ownBlock = some j) w w7 := ((K1.out.no K3.out).mono (fun _ _ h => h.elim)).trans K7.out
      exact (k0.setCell (p := ⟨w.heap.size, 0, none⟩) (fun e => absurd e (Nat.lt_irrefl _)) _).setCell (p := ⟨w.heap.size, 1, none⟩) (fun e => absurd e (Nat.lt_irrefl _)) _)
    have HF := Lib.hid (show HpM p (.slice (some ⟨g, 0, none⟩) n cap') nx E' ((w7.setCell ⟨w.heap.size, 0, none⟩ (.int .i64 a.k)).setCell ⟨w.heap.size, 1, none⟩ (.int .i64 a.v)) from
      ⟨E', List.Perm.refl _, HO7.out, S7.out.r.kp (S := fun k => k = w.heap.size) (((Kp.refl (fun k => k = w.heap.size) _).setCell (p := ⟨w.heap.size, 0, none⟩) (fun _ => rfl) _).setCell (p := ⟨w.heap.size, 1, none⟩) (fun _ => rfl) _) (by omega) (fun g' hg' e => by simp [Value.ownBlock] at hg'; omega)⟩)
    have HPP := Lib.hid (show M.Perm (a :: E') from HP.out.symm.trans (HPM.out.trans (List.Perm.cons a HP7.out.symm)))
    have HMN := Lib.hid (show ∀ y ∈ E', ¬ y.lt a from fun y hy => by
      have h1 : y ∈ a :: E := HPM.out.mem_iff.2 (List.mem_cons_of_mem _ (HP7.out.mem_iff.1 hy))
      obtain ⟨j, hj⟩ := List.getElem?_of_mem h1
      exact HO.out.min rfl j y hj)
    go_wp2_with fail
    exact bodyPost_ret (v := .tuple #[.agg #[.int .i64 a.k, .int .i64 a.v], .bool true]) (by simp [results, Tryz.results60, go_sem, hs0, hs1]) rfl (.inr ⟨a, E', _, HPP.out, HMN.out, rfl, HF.out, KW.out, fun g' hg' => .inl hg'⟩)
end Go.Proofs.YtmipnicdlldjnaaGreatDoor

namespace Go.Proofs.YtmipnicdlldjnaaGreatDoor
set_option linter.unusedVariables false
set_option linter.unusedSimpArgs false
open Go.RowKit

theorem stp_runCopy {P : Program} {w w' : World} {ops : Array Oper} {o : Oper} {a : Act} {K' : Act → World → Prop} {Q : Exit → Act → World → Prop} {Ex : Prop} (hgd : o.guard = none) (s x : Operand) (t u : TypeId)
    (ho : o.op = .call { callee := .builtin .copy, args := #[s, x], argTypes := #[t, u] }) {v xv v' : Value} (hs : a.eval s = v) (hxv : a.eval x = xv)
    (hr : ∀ ty, (Builtin.copy_ #[t, u] ty #[v, xv]).run P w = .ok v' w') (h : K' (a.put o.dst v') w') : if Region.wanted o (yielded ops a.tmps) = true then Oper.wp P o a w K' Q else Ex := by
  have hw : Region.wanted o (yielded ops a.tmps) = true := by simp [Region.wanted, hgd]
  rw [if_pos hw]
  unfold Oper.wp execOp
  simp only [ho, resolve, invoke, builtin, Sem.run_bind, Sem.run_pure, Result.andThen_ok, List.map_toArray, List.map_cons, List.map_nil, hs, hxv, hr]
  exact h
theorem bits_low (n : Nat) (hn : n ≤ 1000000) : bits .and .u64 (n : Int) 4294967295 = (n : Int) := by
  show IntKind.u64.wrap ((BitVec.ofInt 64 (n : Int) &&& BitVec.ofInt 64 (4294967295 : Int)).toNat : Int) = _
  have h1 : (BitVec.ofInt 64 (n : Int)).toNat = n := by
    rw [BitVec.ofInt_natCast, BitVec.toNat_ofNat]; exact Nat.mod_eq_of_lt (by omega)
  have h2 : (BitVec.ofInt 64 (4294967295 : Int)).toNat = 4294967295 := by decide
  rw [BitVec.toNat_and, h1, h2, show (4294967295 : Nat) = 2 ^ 32 - 1 from rfl, Nat.and_two_pow_sub_one_eq_mod, Nat.mod_eq_of_lt (by omega)]
  exact IntWalk.u64_in _ (by omega)
theorem run_mkI (n : Nat) (hn : n ≤ 1000000) (w : World) : (Instr.makeSlice 24 (.int .i64 (n : Int)) (.int .i64 (n : Int))).run Tryz.prog w = .ok (.slice (some ⟨w.heap.size, 0, none⟩) n n) (w.alloc (.cells ((List.replicate n (0 : Int)).map (Value.int .i64)).toArray 3)) :=
  run_mk elI IK1 0 (fun z hz => by have h : (Tryz.prog.info? 3).bind (·.zero) = some (.int .i64 0) := by kernel_rfl
                                   rw [h] at hz; cases hz; rfl) rfl n hn (by decide) w
set_option maxRecDepth 100000 in
theorem mul64_one (n : Nat) (hn : n ≤ 1000000) (w : World) : Calls Tryz.prog 101 #[.int .u64 1, .int .u64 (n : Int)] w fun e w' => e = .returned (.tuple #[.int .u64 0, .int .u64 (n : Int)]) ∧ w' = w := by
  have h1 : bits .and .u64 1 4294967295 = 1 := by kernel_rfl
  have h2 := bits_low n hn
  have h3 : (n : Int) / 4294967296 = 0 := by omega
  have h4 : IntKind.u64.wrap (n : Int) = n := IntWalk.u64_in _ (by omega)
  have h0 : bits .and .u64 0 4294967295 = 0 := by kernel_rfl
  have hw : IntKind.u64.wrap 0 = 0 := by kernel_rfl
  go_enter Tryz.func101, Tryz.ntmps101
  go_wp2_with fail
  go_ret2
  simp [h1, h2, h3, h4, h0, hw]
set_option maxRecDepth 100000 in
theorem mul_one (n : Nat) (hn : n ≤ 1000000) (w : World) : Calls Tryz.prog 83 #[.int .u64 1, .int .u64 (n : Int)] w fun e w' => e = .returned (.tuple #[.int .u64 0, .int .u64 (n : Int)]) ∧ w' = w := by
  have HM := Lib.hid (mul64_one n hn)
  go_enter Tryz.func83, Tryz.ntmps83
  go_wp2_with (go_at_call 101; refine (HM.out _).mono ?_; rintro e w1 ⟨rfl, rfl⟩)
  go_ret2
  exact ⟨rfl, rfl⟩
theorem OwnB.blk1 {α : Type} {K : Kd α} {enc : α → Value} (hK : K1 K enc) {e : TypeId} {w : World} {g cap : Nat} {l : List α} (h : OwnB K e w g cap l) (hl : l.length = cap) : Blk enc e w g l := by
  obtain ⟨cs, h1, h2, h3, h4⟩ := h
  unfold Blk
  rw [h1]
  congr 2
  rw [hK.sz, hK.encs] at h4
  rw [hK.sz] at h3
  rw [List.take_of_length_le (by simp; omega)] at h4
  rw [← h4]
theorem repI_step {x : Int} {n k : Nat} {w : World} {g : Nat} (h1 : 1 ≤ k) (hk : k < n) (h : OwnB IK 3 w g n (List.replicate k x ++ List.replicate (n - k) (0 : Int))) :
    ∃ w' m, 1 ≤ m ∧ k + m ≤ n ∧ (∀ o', (0 < m → o' = k * IK.sz) → ∀ ty, (Builtin.copy_ #[24, 24] ty #[.slice (some ⟨g, o', none⟩) (n - k) (n - k), .slice (some ⟨g, 0, none⟩) k n]).run Tryz.prog w = .ok (.int .i64 (m : Int)) w') ∧ OwnB IK 3 w' g n (List.replicate (k + m) x ++ List.replicate (n - (k + m)) (0 : Int)) ∧ Kp (fun j => j = g) w w' := by
  obtain ⟨m, hm⟩ : ∃ m, m = min k (n - k) := ⟨_, rfl⟩
  obtain ⟨w', hr, ow, kp⟩ := h.copied elI (off := k) (List.replicate m x) (by simp) (by simp; omega) (k * IK.sz) (n - k) (n - k) (some ⟨g, 0, none⟩) k n (by simp [hm]) (fun _ => rfl) (fun _ => ⟨g, 0, rfl, fun j u hu => by
    rw [Nat.zero_add]
    refine h.cells j u ?_
    have hj : j < m := by
      have := (List.getElem?_eq_some_iff.1 hu).1
      rw [IK.length_encs, List.length_replicate] at this
      simpa [IK] using this
    rw [IK1.encs] at hu ⊢
    rw [List.map_append, List.getElem?_append_left (by simp; omega)]
    rw [List.getElem?_map, List.getElem?_replicate, if_pos hj] at hu
    rw [List.getElem?_map, List.getElem?_replicate, if_pos (by omega)]
    exact hu⟩)
  refine ⟨w', m, by omega, by omega, fun o' ho ty => ?_, ?_, kp⟩
  · rw [ho (by omega), hr ty, List.length_replicate]; rfl
  · have e : (List.replicate k x ++ List.replicate (n - k) (0 : Int)).take k ++ List.replicate m x ++ (List.replicate k x ++ List.replicate (n - k) (0 : Int)).drop (k + (List.replicate m x).length) = List.replicate (k + m) x ++ List.replicate (n - (k + m)) (0 : Int) := by
      rw [List.take_left' (by simp), List.length_replicate, List.drop_append, List.drop_eq_nil_of_le (by simp), List.nil_append, List.length_replicate, List.drop_replicate, ← List.replicate_append_replicate]
      congr 2
      omega
    rw [e] at ow
    exact ow
set_option maxRecDepth 100000 in
theorem repI_any (x : Int) (n : Nat) (h0 : 1 ≤ n) (hn : n ≤ 1000000) {w : World} {g0 c0 : Nat} (hr : Rd IK w (.slice (some ⟨g0, 0, none⟩) 1 c0) [x]) :
    Calls Tryz.prog 57 #[.slice (some ⟨g0, 0, none⟩) 1 c0, .int .i64 (n : Int)] w fun e w' => ∃ g, e = .returned (.slice (some ⟨g, 0, none⟩) n n) ∧ Blk (Value.int .i64) 3 w' g (List.replicate n x) ∧ w.heap.size ≤ g ∧ Kp No w w' := by
  have HM := Lib.hid (mul_one n hn)
  have HR := Lib.hid hr
  have hwn : IntKind.u64.wrap (n : Int) = n := IntWalk.u64_in _ (by omega)
  have hwi : IntKind.i64.wrap (n : Int) = n := IntWalk.i64_in _ (by omega)
  have hw1 : IntKind.u64.wrap 1 = 1 := by kernel_rfl
  have hmk := run_mkI n hn
  clear hr
  obtain ⟨g, hg⟩ : ∃ g, g = w.heap.size := ⟨_, rfl⟩
  have ow : OwnB IK 3 (w.alloc (.cells (Array.replicate n (.int .i64 0)) 3)) g n (List.replicate 0 x ++ List.replicate (n - 0) (0 : Int)) := by
    rw [hg]
    have h : Blk (Value.int .i64) 3 (w.alloc (.cells ((List.replicate n (0 : Int)).map (Value.int .i64)).toArray 3)) w.heap.size (List.replicate n 0) := blk_new w _
    have := h.ownB IK1
    simpa using this
  have ow := ow.copied elI (off := 0) [x] (by simp) (by simp; omega) 0 n n (some ⟨g0, 0, none⟩) 1 c0 (by simp; omega) (fun _ => rfl) (fun _ => ⟨g0, 0, rfl, fun j u hu => by
    have := (HR.out.alloc (.cells (Array.replicate n (.int .i64 0)) 3)).cells g0 0 1 c0 rfl j u hu
    simpa using this⟩)
  obtain ⟨w2, hr2, ow2, kp2⟩ := ow
  have ow2' : OwnB IK 3 w2 g n (List.replicate 1 x ++ List.replicate (n - 1) (0 : Int)) := by
    simpa [List.drop_replicate] using ow2
  have KP2 := Lib.hid (show Kp No w w2 from ((Kp.refl No w).alloc _).trans' kp2 (fun j hj e => by omega))
  have HR2 := Lib.hid hr2; have OW2 := Lib.hid ow2'
  have hgl : w.heap.size ≤ g := by omega
  clear ow ow2 ow2' kp2 hr2
  rw [hg] at HR2
  have HG := Lib.hid hg
  clear hg
  go_enter Tryz.func57, Tryz.ntmps57
  go_wp2_with (first | (go_at_call 83; refine (HM.out _).mono ?_; rintro e wz ⟨rfl, hz⟩; rw [hz]; clear hz) | (refine wpl_runCopy rfl (.tmp 31) (.tmp 32) 24 24 rfl rfl rfl HR2.out ?_))
  rw [← HG.out]
  go_loopg [8] n (fun g_ kv wx => ∃ k : Nat, g_ = n + 1 - k ∧ kv = .int .i64 k ∧ 1 ≤ k ∧ k ≤ n ∧ OwnB IK 3 wx g n (List.replicate k x ++ List.replicate (n - k) (0 : Int)) ∧ Kp No w wx)
  case atStart => exact ⟨1, by omega, rfl, by omega, h0, OW2.out, KP2.out⟩
  case round =>
    obtain ⟨k, hgk, rfl, hk1, hkn, ow, kp⟩ := hrel
    have KP := Lib.hid kp
    by_cases hlt : k < n
    · have hltI : (k : Int) < (n : Int) := by omega
      obtain ⟨w3, m, hm1, hm2, hr3, ow3, kp3⟩ := repI_step (w := wr.drew) hk1 hlt ow
      have hnk : ¬ n = k := by omega
      have hr4 := hr3 k (fun _ => by show k = k * 1; omega)
      have HR3 := Lib.hid hr4; have OW3 := Lib.hid ow3; have KP3 := Lib.hid kp3
      have hwm : IntKind.i64.wrap ((k : Int) + (m : Int)) = (k : Int) + (m : Int) := IntWalk.i64_in _ (by omega)
      have K3' := Lib.hid (show Kp No w w3 from KP.out.drew.trans' kp3 (fun j hj e => by omega))
      clear ow kp hr3 hr4 ow3 kp3 hlt
      go_wp2_with fail
      go_region_law (refine stp_runCopy rfl (.tmp 41) (.tmp 44) 24 24 rfl (v := .slice (some ⟨g, k, none⟩) (n - k) (n - k)) (xv := .slice (some ⟨g, 0, none⟩) k n) (by simp [Act.eval, Act.put, hnk]) (by simp [Act.eval, Act.put]) HR3.out ?_)
      all_goals
        go_wp2_with fail
        go_roundg (n + 1 - (k + m))
        case measure => omega
        case rel => exact ⟨k + m, rfl, by go_num, by omega, hm2, OW3.out.kp (Kp.refl No _) (no_no _), K3'.out.no (Kp.refl No _)⟩
    · obtain rfl : k = n := by omega
      have hd0 : ¬ (k : Int) < (k : Int) := by omega
      have OW := Lib.hid ow
      clear hlt ow kp
      go_wp2_with fail
      go_ret
      refine ⟨g, rfl, ?_, hgl, KP.out⟩
      have := OW.out
      rw [Nat.sub_self, List.replicate_zero, List.append_nil] at this
      exact this.blk1 IK1 (by simp)
end Go.Proofs.YtmipnicdlldjnaaGreatDoor

namespace Go.Proofs.YtmipnicdlldjnaaGreatDoor
set_option linter.unusedVariables false
set_option linter.unusedSimpArgs false
open Go.RowKit

theorem HpM.no {p nx : Nat} {V : Value} {M : List Ent} {w w' : World} (h : HpM p V nx M w) (hk : Kp No w w') : HpM p V nx M w' := let ⟨E, a, b, c⟩ := h; ⟨E, a, b, c.no hk⟩
theorem HpM.kp {S : Nat → Prop} {p nx : Nat} {V : Value} {M : List Ent} {w w' : World} (h : HpM p V nx M w) (hk : Kp S w w') (h1 : ¬ S p) (h2 : ∀ g, V.ownBlock = some g → ¬ S g) : HpM p V nx M w' := let ⟨E, a, b, c⟩ := h; ⟨E, a, b, c.kp hk h1 h2⟩
theorem HpM.lt {p nx : Nat} {V : Value} {M : List Ent} {w : World} (h : HpM p V nx M w) : p < w.heap.size := let ⟨E, a, b, c⟩ := h; c.lt
theorem HpM.vlt {p nx : Nat} {V : Value} {M : List Ent} {w : World} (h : HpM p V nx M w) : ∀ g, V.ownBlock = some g → g < w.heap.size := let ⟨E, a, b, c⟩ := h; fun g hg => c.own.lt hg
/-- Blocks gd, gb hold D, By; hp holds the heap, t of whose entries are gone. -/
structure DsW (w0 : World) (gd gb hp : Nat) (V : Value) (t : Nat) (D By : List Int) (P : List (Nat × Nat)) (w : World) : Prop where
  d : Blk (Value.int .i64) 3 w gd D
  b : Blk (Value.int .i64) 3 w gb By
  h : ∃ M, M.Perm ((entP P).drop t) ∧ HpM hp V P.length M w
  ne : gd ≠ gb ∧ gd ≠ hp ∧ gb ≠ hp
  nv : ∀ g, V.ownBlock = some g → g ≠ gd ∧ g ≠ gb ∧ g ≠ hp ∧ w0.heap.size ≤ g
  ge : w0.heap.size ≤ gd ∧ w0.heap.size ≤ gb ∧ w0.heap.size ≤ hp
  kp : Kp No w0 w
/-- ...and block bx the item at hand. -/
structure DsX (w0 : World) (gd gb hp bx : Nat) (V : Value) (t : Nat) (D By : List Int) (P : List (Nat × Nat)) (kx x : Int) (w : World) : Prop where
  s : DsW w0 gd gb hp V t D By P w
  it : w.heap[bx]? = some (.cells #[.int .i64 kx, .int .i64 x] 105 (0, 0))
  ne : bx ≠ gd ∧ bx ≠ gb ∧ bx ≠ hp ∧ w0.heap.size ≤ bx
  nv : V.ownBlock ≠ some bx
section
variable {w0 w w' : World} {gd gb hp bx t : Nat} {V : Value} {D By : List Int} {P : List (Nat × Nat)} {kx x : Int}
theorem DsW.no (h : DsW w0 gd gb hp V t D By P w) (hk : Kp No w w') : DsW w0 gd gb hp V t D By P w' :=
  ⟨h.d.kpNo hk, h.b.kpNo hk, let ⟨M, a, b⟩ := h.h; ⟨M, a, b.no hk⟩, h.ne, h.nv, h.ge, h.kp.no hk⟩
theorem DsX.no (h : DsX w0 gd gb hp bx V t D By P kx x w) (hk : Kp No w w') : DsX w0 gd gb hp bx V t D By P kx x w' := ⟨h.s.no hk, hk.blk h.it (no_no _), h.ne, h.nv⟩
theorem DsW.set (h : DsW w0 gd gb hp V t D By P w) (c : Nat) (d : Int) : DsW w0 gd gb hp V t (D.set c d) By P (w.setCell ⟨gd, c, none⟩ (.int .i64 d)) := by
  have hs := (Kp.refl (fun j => j = gd) w).setCell (p := ⟨gd, c, none⟩) (fun _ => rfl) (.int .i64 d)
  obtain ⟨M, a, b⟩ := h.h
  exact ⟨h.d.set c d, h.b.kp hs (fun e => h.ne.1 e.symm), ⟨M, a, b.kp hs (fun e => h.ne.2.1 e.symm) (fun g hg e => (h.nv g hg).1 e)⟩, h.ne, h.nv, h.ge, h.kp.trans' hs (fun j hj e => by have := h.ge.1; omega)⟩
theorem DsX.set2 (h : DsX w0 gd gb hp bx V t D By P kx x w) (c : Nat) (d b : Int) : DsX w0 gd gb hp bx V t (D.set c d) (By.set c b) P kx x ((w.setCell ⟨gd, c, none⟩ (.int .i64 d)).setCell ⟨gb, c, none⟩ (.int .i64 b)) := by
  have hs := (Kp.refl (fun j => j = gd) w).setCell (p := ⟨gd, c, none⟩) (fun _ => rfl) (.int .i64 d)
  have hs2 := (Kp.refl (fun j => j = gb) (w.setCell ⟨gd, c, none⟩ (.int .i64 d))).setCell (p := ⟨gb, c, none⟩) (fun _ => rfl) (.int .i64 b)
  have h1 := h.s.set c d
  obtain ⟨M, a, m⟩ := h1.h
  exact ⟨⟨h1.d.kp hs2 h.s.ne.1, h1.b.set c b, ⟨M, a, m.kp hs2 (fun e => h.s.ne.2.2 e.symm) (fun g hg e => (h.s.nv g hg).2.1 e)⟩, h1.ne, h1.nv, h1.ge, h1.kp.trans' hs2 (fun j hj e => by have := h.s.ge.2.1; omega)⟩, hs2.blk (hs.blk h.it h.ne.1) h.ne.2.1, h.ne, h.nv⟩
theorem pop_some {st : Nat → List Nat} {s n : Nat} {kx x : Nat} (h : DsW w0 gd gb hp V t D By P w) (hb : BfI st s n t D By P) (hn : n ≤ 1000) (hx : P[t]? = some (kx, x)) :
    Calls Tryz.prog 60 #[.pointer (some ⟨hp, 0, none⟩)] w fun e w' => ∃ V', e = .returned (.tuple #[.agg #[.int .i64 (kx : Int), .int .i64 (x : Int)], .bool true]) ∧ DsW w0 gd gb hp V' (t + 1) D By P w' ∧ HpP hp V V' w w' := by
  obtain ⟨M, hM, hh⟩ := h.h
  have hl := hM.length_eq
  have hPl := hb.len
  simp [entP_len] at hl
  refine (hppop_any hh (by omega)).mono ?_
  rintro e w' (⟨rfl, _⟩ | ⟨a, M', V', hp2, hmin, rfl, hh2, hpp⟩)
  · have := (List.getElem?_eq_some_iff.1 hx).1; simp at hl; omega
  · obtain ⟨kx', x', h1, rfl, h3⟩ := hb.pop hM hp2 hmin
    rw [hx] at h1; cases h1
    refine ⟨V', rfl, ⟨h.d.kp hpp.kp ?_, h.b.kp hpp.kp ?_, ⟨M', h3, hh2⟩, h.ne, fun g hg => ?_, h.ge, h.kp.trans' hpp.kp ?_⟩, hpp⟩
    · rintro (e | e)
      · exact h.ne.2.1 e
      · exact (h.nv _ e).1 rfl
    · rintro (e | e)
      · exact h.ne.2.2 e
      · exact (h.nv _ e).2.1 rfl
    · rcases hpp.ge g hg with e | e
      · exact h.nv g e
      · have := h.d.lt; have := h.b.lt; have := hh.lt; have := h.kp.size; omega
    · rintro j hj (e | e)
      · have := h.ge.2.2; omega
      · have := (h.nv _ e).2.2.2; omega
theorem pop_none {st : Nat → List Nat} {s n : Nat} (h : DsW w0 gd gb hp V t D By P w) (hb : BfI st s n t D By P) (hn : n ≤ 1000) (hx : P.length ≤ t) :
    Calls Tryz.prog 60 #[.pointer (some ⟨hp, 0, none⟩)] w fun e w' => e = .returned (.tuple #[.agg #[.int .i64 0, .int .i64 0], .bool false]) ∧ Kp No w w' := by
  obtain ⟨M, hM, hh⟩ := h.h
  rw [List.drop_eq_nil_of_le (by rw [entP_len]; exact hx)] at hM
  obtain rfl := hM.eq_nil
  refine (hppop_any hh (by simp)).mono ?_
  rintro e w' (⟨_, rfl, _, hk⟩ | ⟨a, M', V', hp2, _⟩)
  · exact ⟨rfl, hk⟩
  · have := hp2.length_eq; simp at this
theorem push_at {st : Nat → List Nat} {s n : Nat} (h : DsW w0 gd gb hp V t D By P w) (hl : P.length ≤ 1000) (ht : t ≤ P.length) (k c : Nat) (K : Int) (hK : K = (k : Int)) :
    Calls Tryz.prog 59 #[.pointer (some ⟨hp, 0, none⟩), .agg #[.int .i64 K, .int .i64 (c : Int)]] w fun e w' => e = .returned (.tuple #[]) ∧ ∃ V', DsW w0 gd gb hp V' t D By (P ++ [(k, c)]) w' ∧ HpP hp V V' w w' := by
  subst hK
  obtain ⟨M, hM, hh⟩ := h.h
  have hl2 := hM.length_eq
  simp [entP_len] at hl2
  refine (hppush_any hh (by omega) (by omega) k c).mono ?_
  rintro e w' ⟨rfl, V', hh2, hpp⟩
  refine ⟨rfl, V', ⟨h.d.kp hpp.kp ?_, h.b.kp hpp.kp ?_, ⟨_, ?_, by rw [List.length_append]; exact hh2⟩, h.ne, fun g hg => ?_, h.ge, h.kp.trans' hpp.kp ?_⟩, hpp⟩
  · rintro (e | e)
    · exact h.ne.2.1 e
    · exact (h.nv _ e).1 rfl
  · rintro (e | e)
    · exact h.ne.2.2 e
    · exact (h.nv _ e).2.1 rfl
  · rw [entP_app, List.drop_append_of_le_length (by rw [entP_len]; exact ht)]
    exact hM.append_right _
  · rcases hpp.ge g hg with e | e
    · exact h.nv g e
    · have := h.d.lt; have := h.b.lt; have := hh.lt; have := h.kp.size; omega
  · rintro j hj (e | e)
    · have := h.ge.2.2; omega
    · have := (h.nv _ e).2.2.2; omega
theorem DsX.by {V' : Value} {P' : List (Nat × Nat)} {t' : Nat} (h : DsX w0 gd gb hp bx V t D By P kx x w) (s : DsW w0 gd gb hp V' t' D By P' w') (hpp : HpP hp V V' w w') : DsX w0 gd gb hp bx V' t' D By P' kx x w' := by
  refine ⟨s, hpp.kp.blk h.it ?_, h.ne, fun e => ?_⟩
  · rintro (e | e)
    · exact h.ne.2.2.1 e
    · exact h.nv e
  · rcases hpp.ge _ e with e | e
    · exact h.nv e
    · have := lt_of_block h.it; omega
/-- The item is stored anew. -/
theorem DsX.item (h : DsX w0 gd gb hp bx V t D By P kx x w) (k' x' : Int) : DsX w0 gd gb hp bx V t D By P k' x' ((w.setCell ⟨bx, 0, none⟩ (.int .i64 k')).setCell ⟨bx, 1, none⟩ (.int .i64 x')) := by
  have hs := ((Kp.refl (fun j => j = bx) w).setCell (p := ⟨bx, 0, none⟩) (fun _ => rfl) (.int .i64 k')).setCell (p := ⟨bx, 1, none⟩) (fun _ => rfl) (.int .i64 x')
  obtain ⟨M, a, m⟩ := h.s.h
  refine ⟨⟨h.s.d.kp hs (fun e => h.ne.1 e.symm), h.s.b.kp hs (fun e => h.ne.2.1 e.symm), ⟨M, a, m.kp hs (fun e => h.ne.2.2.1 e.symm) (fun g hg e => h.nv (by rw [hg, e]))⟩, h.s.ne, h.s.nv, h.s.ge, h.s.kp.trans' hs (fun j hj e => by have := h.ne.2.2.2; omega)⟩, box_set2 h.it _ _, h.ne, h.nv⟩
/-- A new item. -/
theorem DsW.box (h : DsW w0 gd gb hp V t D By P w) (k' x' : Int) : DsX w0 gd gb hp w.heap.size V t D By P k' x' (w.alloc (.cells #[.int .i64 k', .int .i64 x'] 105)) := by
  have := h.d.lt; have := h.b.lt; have := h.kp.size
  obtain ⟨M, a, m⟩ := h.h
  have := m.lt
  refine ⟨h.no ((Kp.refl _ _).alloc _), blk_new _ _, ⟨by omega, by omega, by omega, by omega⟩, fun e => ?_⟩
  have := m.vlt _ e; omega
theorem DsX.c0 (h : DsX w0 gd gb hp bx V t D By P kx x w) : w.cell? ⟨bx, 0, none⟩ = some (.int .i64 kx) := blk_cell h.it 0
theorem DsX.c1 (h : DsX w0 gd gb hp bx V t D By P kx x w) : w.cell? ⟨bx, 1, none⟩ = some (.int .i64 x) := blk_cell h.it 1
end
end Go.Proofs.YtmipnicdlldjnaaGreatDoor

namespace Go.Proofs.YtmipnicdlldjnaaGreatDoor
set_option linter.unusedVariables false
set_option linter.unusedSimpArgs false
open Go.RowKit

def RetD (f : Flr) (fr : Nat) (B : List Int) (w : World) (e : Ending) (w' : World) : Prop :=
  ∃ gd gb D By P t, e = .returned (.tuple #[.slice (some ⟨gd, 0, none⟩) f.s.size f.s.size, .slice (some ⟨gb, 0, none⟩) f.s.size f.s.size]) ∧ Blk (Value.int .i64) 3 w' gd D ∧ Blk (Value.int .i64) 3 w' gb By ∧ gd ≠ gb ∧ w.heap.size ≤ gd ∧ w.heap.size ≤ gb ∧ Kp No w w' ∧ List.length P ≤ t ∧ BfI (stepsP f fr B) fr f.s.size t D By P
theorem litM1 (w : World) : Rd IK (w.alloc (.cells #[.int .i64 (-1)] 3)) (.slice (some ⟨w.heap.size, 0, none⟩) 1 1) [-1] := Rd.litAt IK 3 w _ [-1] rfl (by unfold maxLen; simp) _ _ rfl rfl
theorem steps_sz {f : Flr} {fr : Nat} {B : List Int} (r : RightP f) {x y : Nat} (hx : x < f.s.size) (h : y ∈ stepsP f fr B x) : y < f.s.size := by
  unfold stepsP at h
  split at h
  · simp at h
  · exact near_sz r hx (List.mem_filter.1 h).1
theorem steps_len (f : Flr) (fr : Nat) (B : List Int) (x : Nat) : (stepsP f fr B x).length ≤ 4 := by
  unfold stepsP
  split
  · simp
  · exact Nat.le_trans (List.length_filter_le _ _) (near_len4 f x)

set_option maxHeartbeats 2000000 in
set_option maxRecDepth 100000 in
theorem ptdist_any {f : Flr} {fr p g1 g2 g3 : Nat} {B : List Int} {Vs : List SlC} {w : World} (r : RightP f) (h : PlW f fr (blkB f.s.size B) p g1 g2 g3 Vs w) (hfr : fr < f.s.size) :
    Calls Tryz.prog 37 #[.pointer (some ⟨p, 0, none⟩)] w (RetD f fr B w) := by
  unfold RetD
  have hs256 : f.s.size ≤ 256 := r.s256
  obtain ⟨n, hn⟩ : ∃ n, n = f.s.size := ⟨_, rfl⟩
  rw [← hn]
  have H := Lib.hid h; have HN := Lib.hid hn; have HR := Lib.hid r
  have lc0 : ∀ wx, Kp No w wx → wx.cell? ⟨p, 0, none⟩ = some (.slice (some ⟨g1, 0, none⟩) n n) := fun wx hk => by have := (h.no hk).c0; rwa [← hn] at this
  have lc3 : ∀ wx, Kp No w wx → wx.cell? ⟨p, 3, none⟩ = some (.int .i64 (fr : Int)) := fun wx hk => (h.no hk).c3
  have LC0 := Lib.hid lc0; have LC3 := Lib.hid lc3
  have c0a : ∀ o, (w.alloc o).cell? ⟨p, 0, none⟩ = some (.slice (some ⟨g1, 0, none⟩) n n) := fun o => lc0 _ ((Kp.refl _ _).alloc o)
  rw [← hn] at hs256 hfr
  have hfrI : (fr : Int) < (n : Int) := by omega
  have ST := Lib.hid (fun u hu => HR.out |> fun r => ptsteps_any (w := w) r h u hu)
  have HST := Lib.hid (BfI.start (st := stepsP f fr B) hfr)
  clear ST
  have hn1 : 1 ≤ n := by omega
  clear h hn r lc0 lc3 hfr
  go_enter Tryz.func37, Tryz.ntmps37
  go_wp2_with fail
  refine (repI_any (-1) n hn1 (by omega) (litM1 w)).mono ?_
  rintro e w1 ⟨gd, rfl, bd, gegd, kp1⟩
  have K1 := Lib.hid (show Kp No w w1 from ((Kp.refl No w).alloc _).no kp1)
  have BD := Lib.hid bd
  have GD := Lib.hid (show w.heap.size ≤ gd by simp at gegd; omega)
  have c0b : ∀ o, (w1.alloc o).cell? ⟨p, 0, none⟩ = some (.slice (some ⟨g1, 0, none⟩) n n) := fun o => LC0.out _ (K1.out.alloc o)
  clear bd gegd kp1 c0a
  go_wp2_with fail
  refine (repI_any (-1) n hn1 (by omega) (litM1 w1)).mono ?_
  rintro e w2 ⟨gb, rfl, bb, gegb, kp2⟩
  have K2 := Lib.hid (show Kp No w w2 from (K1.out.alloc _).no kp2)
  have BD2 := Lib.hid (show Blk (Value.int .i64) 3 w2 gd (List.replicate n (-1)) from (BD.out.alloc _).kpNo kp2)
  have BB2 := Lib.hid bb
  have GB := Lib.hid (show gd ≠ gb ∧ w.heap.size ≤ gb by have := BD.out.lt; have := K1.out.size; simp at gegb; omega)
  clear bb gegb kp2 c0b
  go_wp2_with fail
  refine (hpnew_any w2).mono ?_
  rintro e w3 ⟨rfl, hm3, kp3, _⟩
  obtain ⟨hp, hhp⟩ : ∃ hp, hp = w2.heap.size := ⟨_, rfl⟩
  have S3 := Lib.hid (show DsW w gd gb hp (.slice none 0 0) 0 (List.replicate n (-1)) (List.replicate n (-1)) [] w3 from
    ⟨BD2.out.kpNo kp3, BB2.out.kpNo kp3, ⟨[], by simp [entP], by rw [hhp]; exact hm3⟩, ⟨GB.out.1, by have := BD2.out.lt; omega, by have := BB2.out.lt; omega⟩, by simp [Value.ownBlock], ⟨GD.out, GB.out.2, by have := K2.out.size; omega⟩, K2.out.no kp3⟩)
  rw [← hhp]
  clear hm3 kp3 hhp
  have S4 := Lib.hid (S3.out.set fr 0)
  have hc3 := LC3.out w3 S3.out.kp
  have hd0 := S3.out.d.get (i := fr) (x := -1) (by rw [List.getElem?_replicate, if_pos (by omega)])
  have hdf := S3.out.d.free fr
  have hc3' := LC3.out _ S4.out.kp
  go_wp2_with fail
  refine (push_at (st := stepsP f fr B) (s := fr) (n := n) S4.out (by simp) (by simp) 0 fr 0 rfl).mono ?_
  rintro e w5 ⟨rfl, V5, s5, _⟩
  rw [List.nil_append] at s5
  have S5 := Lib.hid s5
  clear s5 hc3 hd0 hdf hc3'
  go_wp2_with fail
  refine (pop_some (st := stepsP f fr B) (s := fr) (n := n) S5.out HST.out (by omega) (kx := 0) (x := fr) rfl).mono ?_
  rintro e w6 ⟨V6, rfl, s6, _⟩
  have X7 := Lib.hid (s6.box 0 fr)
  clear s6
  go_wp2_with fail
  go_loopg [9, 10] (n + 1) (fun g_ xv iv wx => ∃ (t : Nat) (D By : List Int) (P : List (Nat × Nat)) (V : Value) (bx : Nat), g_ = n + 1 - t ∧ xv = .pointer (some ⟨bx, 0, none⟩) ∧ BfI (stepsP f fr B) fr n t D By P ∧ ((∃ kx x : Nat, iv = .bool true ∧ P[t]? = some (kx, x) ∧ DsX w gd gb hp bx V (t + 1) D By P kx x wx) ∨ (iv = .bool false ∧ P.length ≤ t ∧ DsW w gd gb hp V t D By P wx)))
  case atStart => exact ⟨0, _, _, _, V6, _, rfl, rfl, HST.out, .inl ⟨0, fr, rfl, rfl, X7.out⟩⟩
  case round =>
    obtain ⟨t, D, By, P, V, bx, hgk, rfl, bi, ⟨kx, x, rfl, hx, ds⟩ | ⟨rfl, hlt, ds⟩⟩ := hrel
    · have hxl : t < P.length := (List.getElem?_eq_some_iff.1 hx).1
      have hPn := bi.len
      obtain ⟨hxn, _, _⟩ := bi.q _ _ _ hx
      have DS := Lib.hid ds; have BK := Lib.hid (bi.into hx)
      have hb1 : wr.cell? ⟨bx, 1, none⟩ = some (.int .i64 (x : Int)) := ds.c1
      have STP := Lib.hid (ptsteps_any HR.out (H.out.no ds.s.kp) x (by rw [← HN.out]; exact hxn))
      obtain ⟨L, hL⟩ : ∃ L, L = stepsP f fr B x := ⟨_, rfl⟩
      have hL4 : L.length ≤ 4 := by rw [hL]; exact steps_len f fr B x
      rw [← hL] at STP
      have HL := Lib.hid hL
      have HYtmipnicdlldjnaaGreatDoor := Lib.hid hxn
      clear ds bi hx hL hxn
      go_wp2_with fail
      refine STP.out.mono ?_
      rintro e w7 ⟨vL, rfl, ns⟩
      obtain ⟨AL, qL, rfl⟩ := ns.own.rd.shape
      rw [ints_len] at ns ⊢
      obtain ⟨nL, hnL⟩ : ∃ nL, nL = L.length := ⟨_, rfl⟩
      rw [← hnL] at ns hL4 ⊢
      have HNL := Lib.hid hnL
      have D7 := Lib.hid (DS.out.no ns.kp)
      have OL := Lib.hid ns.own
      have GL := Lib.hid (show ∀ g, (Value.slice AL nL qL).ownBlock = some g → g ≠ gd ∧ g ≠ gb ∧ g ≠ hp ∧ g ≠ bx ∧ V.ownBlock ≠ some g by
        intro g hg
        have h1 := ns.ge g hg
        have h2 := DS.out.s.d.lt; have h3 := DS.out.s.b.lt
        obtain ⟨M, _, hm⟩ := DS.out.s.h
        have h4 := hm.lt; have h5 := lt_of_block DS.out.it
        refine ⟨by omega, by omega, by omega, by omega, fun e => ?_⟩
        have := hm.vlt g e; omega)
      clear ns hnL hb1 STP
      go_wp2_with fail
      obtain ⟨wo, hwo⟩ : ∃ wo : World, wo = wr := ⟨_, rfl⟩
      clear hwo
      go_loopg [61] (nL + 1) (fun g2_ jv wx => ∃ (m : Nat) (D By : List Int) (P : List (Nat × Nat)) (V : Value), g2_ = nL + 1 - m ∧ jv = .int .i64 m ∧ m ≤ nL ∧ BfK (stepsP f fr B) fr n t m kx x D By P ∧ DsX w gd gb hp bx V (t + 1) D By P kx x wx ∧ Own IK 3 wx (.slice AL nL qL) (ints L) ∧ (∀ g, (Value.slice AL nL qL).ownBlock = some g → g ≠ gd ∧ g ≠ gb ∧ g ≠ hp ∧ g ≠ bx ∧ V.ownBlock ≠ some g))
      case atStart => exact ⟨0, D, By, P, V, rfl, rfl, by omega, BK.out, D7.out, OL.out, GL.out⟩
      case round =>
        clear BK D7 OL GL DS hxl hPn
        obtain ⟨m, D, By, P, V, hg2, rfl, hm, bk, ds, ol, gl⟩ := hrel
        have BK := Lib.hid bk; have DS := Lib.hid ds; have OL := Lib.hid ol; have GL := Lib.hid gl
        clear bk ds ol gl
        by_cases hlt : m < nL
        · have hltI : (m : Int) < (nL : Int) := by omega
          have hwm : IntKind.i64.wrap ((m : Int) + 1) = (m : Int) + 1 := IntWalk.i64_in _ (by omega)
          obtain ⟨c, hc⟩ : ∃ c, L[m]? = some c := ⟨_, List.getElem?_eq_getElem (by rw [← HNL.out]; exact hlt)⟩
          have hc' : (stepsP f fr B x)[m]? = some c := by rw [← HL.out]; exact hc
          have hcn : c < n := by rw [HN.out]; exact steps_sz HR.out (by rw [← HN.out]; exact HYtmipnicdlldjnaaGreatDoor.out) (List.mem_of_getElem? hc')
          have hcI : (c : Int) < (n : Int) := by omega
          rcases OL.out.b with ⟨hv, _⟩ | ⟨gL, capL, hv, _, _, _⟩
          · simp only [Value.slice.injEq] at hv; omega
          simp only [Value.slice.injEq] at hv
          obtain ⟨rfl, hzz, rfl⟩ := hv
          clear hzz
          have hcc : wr.cell? ⟨gL, m, none⟩ = some (.int .i64 (c : Int)) := by have := OL.out.rd.intAt (ints_get hc); simpa using this
          obtain ⟨d, hd⟩ : ∃ d, D[c]? = some d := ⟨_, List.getElem?_eq_getElem (by rw [BK.out.b.lenD]; exact hcn)⟩
          have hcd : wr.cell? ⟨gd, c, none⟩ = some (.int .i64 d) := DS.out.s.d.get hd
          by_cases hd0 : d < 0
          · obtain ⟨b0, hb0⟩ : ∃ d, By[c]? = some d := ⟨_, List.getElem?_eq_getElem (by rw [BK.out.b.lenB]; exact hcn)⟩
            have BK2 := Lib.hid (BK.out.put hc' hcn hd hd0)
            have S2 := Lib.hid (DS.out.set2 c ((kx : Int) + 1) (x : Int))
            have hPn := BK.out.b.len
            have htl := (List.getElem?_eq_some_iff.1 BK.out.at_).1
            have hkn : kx ≤ 256 := by have := BK.out.b.key _ _ _ BK.out.at_; omega
            have hwk : IntKind.i64.wrap ((kx : Int) + 1) = (kx : Int) + 1 := IntWalk.i64_in _ (by omega)
            have hx0 := DS.out.c0
            have hx1 := DS.out.c1
            have hdf := DS.out.s.d.free c
            have hbf := DS.out.s.b.free c
            have hcb := DS.out.s.b.get hb0
            have S1 := DS.out.s.set c ((kx : Int) + 1)
            have e1 : (wr.setCell ⟨gd, c, none⟩ (.int .i64 ((kx : Int) + 1))).cell? ⟨gb, c, none⟩ = some (.int .i64 b0) := S1.b.get hb0
            have e2 : (wr.setCell ⟨gd, c, none⟩ (.int .i64 ((kx : Int) + 1))).frozen? ⟨gb, c, none⟩ = false := S1.b.free c
            have hs := (Kp.refl (fun j => j = gd) wr).setCell (p := ⟨gd, c, none⟩) (fun _ => rfl) (.int .i64 ((kx : Int) + 1))
            have e3 : (wr.setCell ⟨gd, c, none⟩ (.int .i64 ((kx : Int) + 1))).cell? ⟨bx, 1, none⟩ = some (.int .i64 (x : Int)) := blk_cell (hs.blk DS.out.it DS.out.ne.1) 1
            have HC := Lib.hid hc
            clear hc hc' hcn hd hlt S1 hs
            go_wp2_with fail
            go_region
            clear hx0 hx1 hdf hbf hcb e1 e2 e3 hcd hcc
            have X2 := Lib.hid (S2.out.no ((Kp.refl No _).drew))
            have hcd2 := X2.out.s.d.get (i := c) (x := (kx : Int) + 1) (by rw [List.getElem?_set, if_pos rfl, if_pos (by rw [BK.out.b.lenD, HN.out]; exact steps_sz HR.out (by rw [← HN.out]; exact HYtmipnicdlldjnaaGreatDoor.out) (List.mem_of_getElem? (by rw [← HL.out]; exact HC.out)))])
            have PU := Lib.hid (push_at (st := stepsP f fr B) (s := fr) (n := n) X2.out.s (by omega) (by omega) (kx + 1) c ((kx : Int) + 1) (by omega))
            have O2 := Lib.hid (show Own IK 3 ((wr.setCell ⟨gd, c, none⟩ (.int .i64 ((kx : Int) + 1))).setCell ⟨gb, c, none⟩ (.int .i64 (x : Int))).drew (.slice (some ⟨gL, 0, none⟩) nL qL) (ints L) from
              OL.out.kp ((((Kp.refl (fun j => j = gd ∨ j = gb) wr).setCell (p := ⟨gd, c, none⟩) (fun _ => .inl rfl) (.int .i64 ((kx : Int) + 1))).setCell (p := ⟨gb, c, none⟩) (fun _ => .inr rfl) (.int .i64 (x : Int))).drew) (fun g hg e => by
                have := GL.out g hg
                rcases e with e | e
                · exact this.1 e
                · exact this.2.1 e))
            obtain ⟨wq, hwq⟩ : ∃ wq, wq = ((wr.setCell ⟨gd, c, none⟩ (.int .i64 ((kx : Int) + 1))).setCell ⟨gb, c, none⟩ (.int .i64 (x : Int))).drew := ⟨_, rfl⟩
            have hsz := GL.out
            rw [← hwq] at X2 hcd2 PU O2 ⊢
            have GS := Lib.hid (show ∀ g, (Value.slice (some ⟨gL, 0, none⟩) nL qL).ownBlock = some g → g < wq.heap.size from fun g hg => O2.out.lt hg)
            clear hwq S2 hsz
            go_wp2_with fail
            refine PU.out.mono ?_
            rintro e w9 ⟨rfl, V9, s9, hpp⟩
            have X9 := Lib.hid (X2.out.by s9 hpp)
            have O9 := Lib.hid (O2.out.kp hpp.kp (fun g hg e => by
              have := GL.out g hg
              rcases e with e | e
              · exact this.2.2.1 e
              · exact this.2.2.2.2 e))
            have G9 := Lib.hid (show ∀ g, (Value.slice (some ⟨gL, 0, none⟩) nL qL).ownBlock = some g → g ≠ gd ∧ g ≠ gb ∧ g ≠ hp ∧ g ≠ bx ∧ V9.ownBlock ≠ some g from fun g hg => by
              have h1 := GL.out g hg
              refine ⟨h1.1, h1.2.1, h1.2.2.1, h1.2.2.2.1, fun e => ?_⟩
              rcases hpp.ge g e with e | e
              · exact h1.2.2.2.2 e
              · have := GS.out g hg; omega)
            clear s9 hpp hcd2 PU
            go_wp2_with fail
            go_roundg (nL + 1 - (m + 1))
            case measure => omega
            case rel => exact ⟨m + 1, _, _, _, V9, rfl, by go_num, by omega, BK2.out, X9.out, O9.out, G9.out⟩
          · have h0 : 0 ≤ d := by omega
            have BK2 := Lib.hid (BK.out.skip hc' hd h0)
            clear hc hc' hcn hd hlt h0
            go_wp2_with fail
            go_roundg (nL + 1 - (m + 1))
            case measure => omega
            case rel => exact ⟨m + 1, D, By, P, V, rfl, by go_num, by omega, BK2.out, DS.out, OL.out, GL.out⟩
        · obtain rfl : m = nL := by omega
          have hd0 : ¬ (m : Int) < (m : Int) := by omega
          have BI := Lib.hid ((show BfK (stepsP f fr B) fr n t (stepsP f fr B x).length kx x D By P by rw [← HL.out, ← HNL.out]; exact BK.out).done)
          have hb0 : wr.cell? ⟨bx, 0, none⟩ = some (.int .i64 (kx : Int)) := DS.out.c0
          have hb1 : wr.cell? ⟨bx, 1, none⟩ = some (.int .i64 (x : Int)) := DS.out.c1
          have X2 := Lib.hid (DS.out.s.box kx x)
          have hPn := BI.out.len
          have htl := (List.getElem?_eq_some_iff.1 BK.out.at_).1
          clear hlt
          by_cases hq : t + 1 < P.length
          · obtain ⟨⟨k2, x2⟩, h2⟩ : ∃ y, P[t + 1]? = some y := ⟨_, List.getElem?_eq_getElem hq⟩
            have PO := Lib.hid (pop_some X2.out.s BI.out (by omega) h2)
            have H2 := Lib.hid h2
            clear hq h2
            go_wp2_with fail
            refine PO.out.mono ?_
            rintro e w8 ⟨V8, rfl, s8, hpp⟩
            have X8 := Lib.hid (X2.out.by s8 hpp)
            have X9 := Lib.hid (X8.out.item k2 x2)
            have hx0 := X8.out.c0
            have hx1 := X8.out.c1
            obtain ⟨v1, hx1'⟩ := cellSet (p := ⟨wr.heap.size, 0, none⟩) (x := .int .i64 (k2 : Int)) hx1
            have hf0 : w8.frozen? ⟨wr.heap.size, 0, none⟩ = false := blk_free X8.out.it 0
            have hf1 : w8.frozen? ⟨wr.heap.size, 1, none⟩ = false := blk_free X8.out.it 1
            clear s8 hpp PO hb0 hb1
            go_wp2_with fail
            go_roundg (n + 1 - (t + 1))
            case measure => omega
            case rel => exact ⟨t + 1, D, By, P, V8, _, rfl, rfl, BI.out, .inl ⟨k2, x2, rfl, H2.out, X9.out⟩⟩
          · have PO := Lib.hid (pop_none X2.out.s BI.out (by omega) (by omega))
            have HQ := Lib.hid hq
            clear hq
            go_wp2_with fail
            refine PO.out.mono ?_
            rintro e w8 ⟨rfl, k8⟩
            have X8 := Lib.hid (X2.out.no k8)
            have X9 := Lib.hid (X8.out.item 0 0)
            have hx0 := X8.out.c0
            have hx1 := X8.out.c1
            obtain ⟨v1, hx1'⟩ := cellSet (p := ⟨wr.heap.size, 0, none⟩) (x := .int .i64 0) hx1
            have hf0 : w8.frozen? ⟨wr.heap.size, 0, none⟩ = false := blk_free X8.out.it 0
            have hf1 : w8.frozen? ⟨wr.heap.size, 1, none⟩ = false := blk_free X8.out.it 1
            clear k8 PO hb0 hb1
            go_wp2_with fail
            go_roundg (n + 1 - (t + 1))
            case measure => omega
            case rel => exact ⟨t + 1, D, By, P, V, _, rfl, rfl, BI.out, .inr ⟨rfl, by have := HQ.out; omega, X9.out.s⟩⟩
    · have DS := Lib.hid ds; have BI := Lib.hid bi; have LT := Lib.hid hlt
      clear ds bi hlt
      go_wp2_with fail
      go_ret2
      exact ⟨gd, gb, D, By, P, t, rfl, DS.out.d, DS.out.b, GB.out.1, GD.out, GB.out.2, DS.out.kp, LT.out, BI.out⟩
end Go.Proofs.YtmipnicdlldjnaaGreatDoor

namespace Go.Proofs.YtmipnicdlldjnaaGreatDoor
set_option linter.unusedVariables false
set_option linter.unusedSimpArgs false
open Go.RowKit

theorem least_ex {p : Nat → Prop} : ∀ k, p k → ∃ m, p m ∧ ∀ j, p j → m ≤ j := by
  intro k
  induction k using Nat.strongRecOn with
  | _ k ih =>
    intro hk
    by_cases h : ∃ j, j < k ∧ p j
    · obtain ⟨j, hj, hp⟩ := h; exact ih j hj hp
    · exact ⟨k, hk, fun j hj => by
        rcases Nat.lt_or_ge j k with h1 | h1
        · exact absurd ⟨j, h1, hj⟩ h
        · exact h1⟩
theorem isD_ex (st : Nat → List Nat) (s c : Nat) : ∃ d, IsD st s c d := by
  by_cases h : ∃ k, Wk st s k c
  · obtain ⟨k, hk⟩ := h
    obtain ⟨m, hm, hl⟩ := least_ex (p := fun k => Wk st s k c) k hk
    exact ⟨m, .inr ⟨m, rfl, hm, hl⟩⟩
  · exact ⟨-1, .inl ⟨rfl, fun k hk => h ⟨k, hk⟩⟩⟩
/-- How far c is; -1: it can't be reached. -/
noncomputable def dst (st : Nat → List Nat) (s c : Nat) : Int := Classical.choose (isD_ex st s c)
theorem dst_isD (st : Nat → List Nat) (s c : Nat) : IsD st s c (dst st s c) := Classical.choose_spec (isD_ex st s c)
noncomputable def distL (st : Nat → List Nat) (s n : Nat) : List Int := (List.range n).map fun c => dst st s c
theorem distL_len (st : Nat → List Nat) (s n : Nat) : (distL st s n).length = n := by simp [distL]
theorem distL_get {st : Nat → List Nat} {s n c : Nat} (h : c < n) : (distL st s n)[c]? = some (dst st s c) := by simp [distL, List.getElem?_range h]
theorem distL_of {st : Nat → List Nat} {s n : Nat} {D : List Int} (hl : D.length = n) (h : ∀ c d, D[c]? = some d → IsD st s c d) : D = distL st s n := by
  apply List.ext_getElem?
  intro i
  rcases Nat.lt_or_ge i n with h1 | h1
  · rw [distL_get h1]
    obtain ⟨d, hd⟩ : ∃ d, D[i]? = some d := ⟨_, List.getElem?_eq_getElem (by omega)⟩
    rw [hd, (h i d hd).uniq (dst_isD st s i)]
  · rw [List.getElem?_eq_none (by omega), List.getElem?_eq_none (by rw [distL_len]; exact h1)]
theorem BfI.dl {st : Nat → List Nat} {s n t : Nat} {D By : List Int} {P : List (Nat × Nat)} (h : BfI st s n t D By P) (ht : P.length ≤ t) : D = distL st s n := distL_of h.lenD fun c d hd => h.isD ht hd
/-- path.Dist's answer. -/
noncomputable def distP (f : Flr) (fr : Int) (B : List Int) : List Int := if ptOk f fr = true then distL (stepsP f fr.toNat B) fr.toNat f.s.size else []
theorem Blk.newI {w0 w : World} {g : Nat} {l : List Int} (h : Blk (Value.int .i64) 3 w g l) (hg : w0.heap.size ≤ g) (hk : Kp No w0 w) (hl : l.length ≤ 1000000) : NewS IK 3 w0 w (.slice (some ⟨g, 0, none⟩) l.length l.length) l :=
  ⟨(h.ownB IK1).own (by unfold maxLen; omega), fun g' e => by simp [Value.ownBlock] at e; omega, hk⟩
theorem ptOk_nat {f : Flr} {fr : Int} (h : ptOk f fr = true) : ∃ k : Nat, fr = k ∧ k < f.s.size ∧ RightP f := by
  unfold ptOk at h
  simp only [Bool.and_eq_true, decide_eq_true_eq] at h
  exact ⟨fr.toNat, by omega, by omega, rightB_iff.1 h.1.2⟩

end Go.Proofs.YtmipnicdlldjnaaGreatDoor
