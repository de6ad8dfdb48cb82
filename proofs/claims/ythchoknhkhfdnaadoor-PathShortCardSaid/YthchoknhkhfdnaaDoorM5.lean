/- path.Dist; path, plain: the way that a search found. No function of the program; slices.Reverse of ints; path.Find: what is refused; path.Find; slices.Index, slices.Contains of ints; carfaxref03.dock, lane, beside; Floors, plain: which lanes can be reached, by rounds. No function of the program; carfaxref03.reached; Floors, plain: docks, counted. No function of the program; carfaxref03.Right. No condition. -/
import Derived.Test.YthchoknhkhfdnaaDoorM4
import Derived.Test.YthchoknhkhfdnaaDoorM3
import Derived.BigRegion
import Derived.Deep.LoopGhost
import Derived.Test.YthchoknhkhfdnaaDoorM2
import Derived.Deep.CutBlock
import Derived.Deep.DeepCutAuto
import Derived.Deep.Cut
import Derived.Deep.CutRange
import Derived.Test.YthchoknhkhfdnaaDoorM1

namespace Go.Proofs.YthchoknhkhfdnaaDoor
set_option linter.unusedVariables false
set_option linter.unusedSimpArgs false
open Go.RowKit

theorem least_ex {p : Nat → Prop} : ∀ k, p k → ∃ m, p m ∧ ∀ j, p j → m ≤ j := by
  intro k
  induction k using Nat.strongRecOn with
  | _ k ih =>
    intro hk
    by_cases h : ∃ j, j < k ∧ p j
    · obtain ⟨j, hj, hp⟩ := h; exact ih j hj hp
    · exact ⟨k, hk, fun j hj => by
        rcases Nat.lt_or_ge j k with h1 | h1
        · exact absurd ⟨j, h1, hj⟩ h
        · exact h1⟩
theorem isD_ex (st : Nat → List Nat) (s c : Nat) : ∃ d, IsD st s c d := by
  by_cases h : ∃ k, Wk st s k c
  · obtain ⟨k, hk⟩ := h
    obtain ⟨m, hm, hl⟩ := least_ex (p := fun k => Wk st s k c) k hk
    exact ⟨m, .inr ⟨m, rfl, hm, hl⟩⟩
  · exact ⟨-1, .inl ⟨rfl, fun k hk => h ⟨k, hk⟩⟩⟩
/-- How far c is; -1: it can't be reached. -/
noncomputable def dst (st : Nat → List Nat) (s c : Nat) : Int := Classical.choose (isD_ex st s c)
theorem dst_isD (st : Nat → List Nat) (s c : Nat) : IsD st s c (dst st s c) := Classical.choose_spec (isD_ex st s c)
noncomputable def distL (st : Nat → List Nat) (s n : Nat) : List Int := (List.range n).map fun c => dst st s c
theorem distL_len (st : Nat → List Nat) (s n : Nat) : (distL st s n).length = n := by simp [distL]
theorem distL_get {st : Nat → List Nat} {s n c : Nat} (h : c < n) : (distL st s n)[c]? = some (dst st s c) := by simp [distL, List.getElem?_range h]
theorem distL_of {st : Nat → List Nat} {s n : Nat} {D : List Int} (hl : D.length = n) (h : ∀ c d, D[c]? = some d → IsD st s c d) : D = distL st s n := by
  apply List.ext_getElem?
  intro i
  rcases Nat.lt_or_ge i n with h1 | h1
  · rw [distL_get h1]
    obtain ⟨d, hd⟩ : ∃ d, D[i]? = some d := ⟨_, List.getElem?_eq_getElem (by omega)⟩
    rw [hd, (h i d hd).uniq (dst_isD st s i)]
  · rw [List.getElem?_eq_none (by omega), List.getElem?_eq_none (by rw [distL_len]; exact h1)]
theorem BfI.dl {st : Nat → List Nat} {s n t : Nat} {D By : List Int} {P : List (Nat × Nat)} (h : BfI st s n t D By P) (ht : P.length ≤ t) : D = distL st s n := distL_of h.lenD fun c d hd => h.isD ht hd
/-- path.Dist's answer. -/
noncomputable def distP (f : Flr) (fr : Int) (B : List Int) : List Int := if ptOk f fr = true then distL (stepsP f fr.toNat B) fr.toNat f.s.size else []
theorem Blk.newI {w0 w : World} {g : Nat} {l : List Int} (h : Blk (Value.int .i64) 3 w g l) (hg : w0.heap.size ≤ g) (hk : Kp No w0 w) (hl : l.length ≤ 1000000) : NewS IK 3 w0 w (.slice (some ⟨g, 0, none⟩) l.length l.length) l :=
  ⟨(h.ownB IK1).own (by unfold maxLen; omega), fun g' e => by simp [Value.ownBlock] at e; omega, hk⟩
theorem ptOk_nat {f : Flr} {fr : Int} (h : ptOk f fr = true) : ∃ k : Nat, fr = k ∧ k < f.s.size ∧ RightP f := by
  unfold ptOk at h
  simp only [Bool.and_eq_true, decide_eq_true_eq] at h
  exact ⟨fr.toNat, by omega, by omega, rightB_iff.1 h.1.2⟩

set_option maxRecDepth 100000 in
theorem ptDist_any (f : Flr) (hsz : f.s.size ≤ 1000000) (fr : Int) {bv : Value} {B : List Int} {w : World} (hB : Rd IK w bv B) :
    Calls Tryd.prog 13 #[f.val, .int .i64 fr, bv] w fun e w' => ∃ v, e = .returned v ∧ NewS IK 3 w w' v (distP f fr B) := by
  have HBX := Lib.hid (BxW.new f w)
  cases hok : ptOk f fr with
  | false =>
    have HO := Lib.hid (ptof_no f hsz fr bv hok)
    have HD := Lib.hid (show distP f fr B = [] by unfold distP; rw [hok]; simp)
    obtain ⟨Y, hY⟩ : ∃ Y, Y = distP f fr B := ⟨_, rfl⟩
    rw [← hY] at HD ⊢
    obtain ⟨X, Y, s⟩ := f
    unfold Flr.val at HO ⊢
    clear hok hsz hB hY
    go_enter Tryd.func13, Tryd.ntmps13
    go_wp2_with (go_at_call 23; refine (HO.out _).mono ?_; rintro e w1 ⟨rfl, kp1⟩; have K1 := Lib.hid kp1; clear kp1)
    go_ret
    exact ⟨_, rfl, by rw [HD.out]; exact ⟨Own.nil _ _ _, by simp [Value.ownBlock], HBX.out.kp.no K1.out⟩⟩
  | true =>
    obtain ⟨k, rfl, hk, hr⟩ := ptOk_nat hok
    have HO := Lib.hid (ptof_ok f hsz k (w := w.alloc (.cells #[.int .i64 f.W, .int .i64 f.H, .string f.s] 23)) (hB.alloc _) hok)
    have HD := Lib.hid (show distP f (k : Int) B = distL (stepsP f k B) k f.s.size by unfold distP; rw [hok]; simp)
    obtain ⟨N, hN⟩ : ∃ N, N = distP f k B := ⟨_, rfl⟩
    rw [← hN] at HD ⊢
    have HK := Lib.hid hk; have HR := Lib.hid hr
    obtain ⟨F, hF⟩ : ∃ F, F = f := ⟨_, rfl⟩
    have HF := Lib.hid hF
    rw [← hF] at HD HK HR
    obtain ⟨X, Y, s⟩ := f
    unfold Flr.val at HO ⊢
    clear hok hsz hB hN hk hr hF
    go_enter Tryd.func13, Tryd.ntmps13
    go_wp2_with fail
    refine HO.out.mono ?_
    rintro e w1 ⟨p, g1, g2, g3, Vs, rfl, pl, kp1⟩
    have DI := Lib.hid (ptdist_any (f := F) HR.out (by rw [HF.out]; exact pl) HK.out)
    have K1 := Lib.hid (HBX.out.kp.no kp1)
    clear pl kp1
    go_wp2_with fail
    refine DI.out.mono ?_
    rintro e w2 ⟨gd, gb, D, By, P, t, rfl, bd, _, _, hgd, _, kp2, ht, bi⟩
    have hl := bi.lenD
    have hs256 : F.s.size ≤ 256 := HR.out.s256
    have NW := Lib.hid (show NewS IK 3 w w2 (.slice (some ⟨gd, 0, none⟩) F.s.size F.s.size) N by
      rw [HD.out, ← bi.dl ht]
      have := (bd.newI (w0 := w) (by have := K1.out.size; omega) (K1.out.no kp2) (by omega))
      rwa [hl] at this)
    clear bd hgd kp2 ht bi hl
    go_wp2_with fail
    go_ret
    exact ⟨_, rfl, NW.out⟩
end Go.Proofs.YthchoknhkhfdnaaDoor

namespace Go.Proofs.YthchoknhkhfdnaaDoor
set_option linter.unusedVariables false
set_option linter.unusedSimpArgs false
open Go.RowKit

/-- The node behind the first k of a way from s. -/
def nd (s : Nat) (Q : List Nat) : Nat → Nat
  | 0 => s
  | k + 1 => Q.getD k 0
theorem nd_succ {s k b : Nat} {Q : List Nat} (h : Q[k]? = some b) : nd s Q (k + 1) = b := by
  show Q.getD k 0 = b
  rw [List.getD_eq_getElem?_getD, h]; rfl
theorem nd_app {s k : Nat} {Q : List Nat} (h : k ≤ Q.length) (b : Nat) : nd s (Q ++ [b]) k = nd s Q k := by
  cases k with
  | zero => rfl
  | succ k =>
    show (Q ++ [b]).getD k 0 = Q.getD k 0
    rw [List.getD_eq_getElem?_getD, List.getD_eq_getElem?_getD, List.getElem?_append_left (by omega)]
theorem nd_last (s : Nat) (Q : List Nat) (b : Nat) : nd s (Q ++ [b]) (Q.length + 1) = b := nd_succ (by simp)
/-- Each step goes to the first neighbour from which there is a walk of the steps that are left. -/
structure FstW (st : Nat → List Nat) (s g : Nat) (Q : List Nat) : Prop where
  en : nd s Q Q.length = g
  at_ : ∀ (k b : Nat), Q[k]? = some b → Wk st b (Q.length - 1 - k) g ∧ ∃ m : Nat, (st (nd s Q k))[m]? = some b ∧ ∀ (m' l : Nat), m' < m → (st (nd s Q k))[m']? = some l → ¬ Wk st l (Q.length - 1 - k) g
structure Chn (st : Nat → List Nat) (s : Nat) (By : List Int) (P : List (Nat × Nat)) (Q I : List Nat) : Prop where
  len : I.length = Q.length
  at_ : ∀ (k b : Nat), Q[k]? = some b → ∃ i m : Nat, I[k]? = some i ∧ P[i]? = some (k + 1, b) ∧ (st (nd s Q k))[m]? = some b ∧ By[b]? = some (nd s Q k : Int) ∧ (∀ m' c', m' < m → (st (nd s Q k))[m']? = some c' → inP P i c') ∧ (∀ j' l' u', j' < nd 0 I k → P[j']? = some (l', u') → ∀ c' ∈ st u', inP P i c')
theorem Wk.front {st : Nat → List Nat} {a b c k : Nat} (h : b ∈ st a) (hw : Wk st b k c) : Wk st a (k + 1) c := by
  induction hw with
  | nil => exact .step .nil h
  | step _ hc ih => exact .step ih hc
theorem Wk.trans {st : Nat → List Nat} {a b c j k : Nat} (h : Wk st a j b) (hw : Wk st b k c) : Wk st a (j + k) c := by
  induction hw with
  | nil => exact h
  | step _ hc ih => exact .step ih hc
section
variable {st : Nat → List Nat} {s n t : Nat} {D By : List Int} {P : List (Nat × Nat)} {Q I : List Nat}
theorem BfI.chain (h : BfI st s n t D By P) : ∀ (i k c : Nat), P[i]? = some (k, c) → ∃ Q I, List.length Q = k ∧ nd s Q k = c ∧ nd 0 I k = i ∧ Chn st s By P Q I := by
  intro i
  induction i using Nat.strongRecOn with
  | _ i ih =>
    intro k c hi
    rcases Nat.eq_zero_or_pos i with rfl | h0
    · rw [h.z] at hi; cases hi
      exact ⟨[], [], rfl, rfl, rfl, rfl, fun k b hb => by simp at hb⟩
    · obtain ⟨j, l, u, m, h1, h2, rfl, h4, h5, h6, h7⟩ := h.by_ _ _ _ h0 hi
      obtain ⟨Q, I, q1, q2, q3, q4⟩ := ih j h1 l u h2
      refine ⟨Q ++ [c], I ++ [i], by simp [q1], by rw [← q1]; exact nd_last s Q c, by rw [← q1, ← q4.len]; exact nd_last 0 I i, by simp [q4.len], fun k b hb => ?_⟩
      rcases Nat.lt_or_ge k Q.length with hk | hk
      · rw [List.getElem?_append_left hk] at hb
        obtain ⟨i2, m2, a1, a2, a3, a4, a5, a6⟩ := q4.at_ k b hb
        rw [nd_app (by omega), nd_app (by rw [q4.len]; omega)]
        exact ⟨i2, m2, by rw [List.getElem?_append_left (by rw [q4.len]; exact hk)]; exact a1, a2, a3, a4, a5, a6⟩
      · have hk2 : k = Q.length := by
          have := (List.getElem?_eq_some_iff.1 hb).1
          simp at this; omega
        subst hk2
        simp at hb; subst hb
        rw [nd_app (Nat.le_refl _), nd_app (by rw [q4.len]; exact Nat.le_refl _), q1, q2, q3]
        exact ⟨i, m, by rw [← q1, ← q4.len]; simp, hi, h4, h5, h6, h7⟩
theorem Chn.low (h : Chn st s By P Q I) {k : Nat} : ∀ d r e, k + d ≤ Q.length → inP P (nd 0 I k) r → Wk st r d e → inP P (nd 0 I (k + d)) e := by
  intro d
  induction d with
  | zero => intro r e _ hr hw; cases hw; exact hr
  | succ d ih =>
    intro r e hd hr hw
    cases hw with
    | step hw hc =>
      obtain ⟨j, l, h1, h2⟩ := ih _ _ (by omega) hr hw
      obtain ⟨b, hb⟩ : ∃ b, Q[k + d]? = some b := ⟨_, List.getElem?_eq_getElem (by omega)⟩
      obtain ⟨i, m, a1, _, _, _, _, a6⟩ := h.at_ _ _ hb
      rw [show k + (d + 1) = (k + d) + 1 by omega, nd_succ a1]
      exact a6 j l _ h1 h2 _ hc
theorem Chn.walk (h : Chn st s By P Q I) : ∀ d k, k + d = Q.length → Wk st (nd s Q k) d (nd s Q Q.length) := by
  intro d
  induction d with
  | zero => intro k hk; rw [show k = Q.length by omega]; exact .nil
  | succ d ih =>
    intro k hk
    obtain ⟨b, hb⟩ : ∃ b, Q[k]? = some b := ⟨_, List.getElem?_eq_getElem (by omega)⟩
    obtain ⟨i, m, _, _, a3, _⟩ := h.at_ _ _ hb
    have := ih (k + 1) (by omega)
    rw [nd_succ hb] at this
    exact .front (List.mem_of_getElem? a3) this
theorem Chn.fst (h : Chn st s By P Q I) (hb : BfI st s n t D By P) : FstW st s (nd s Q Q.length) Q := by
  refine ⟨rfl, fun k b hk => ?_⟩
  have hl := (List.getElem?_eq_some_iff.1 hk).1
  obtain ⟨i, m, a1, a2, a3, a4, a5, a6⟩ := h.at_ _ _ hk
  refine ⟨?_, m, a3, fun m' l hm hl2 hw => ?_⟩
  · have := h.walk (Q.length - 1 - k) (k + 1) (by omega)
    rwa [nd_succ hk] at this
  · have h1 : inP P (nd 0 I (k + 1)) l := by rw [nd_succ a1]; exact a5 m' l hm hl2
    obtain ⟨j, l', h2, h3⟩ := h.low (k := k + 1) (Q.length - 1 - k) l _ (by omega) h1 hw
    rw [show k + 1 + (Q.length - 1 - k) = Q.length by omega] at h2
    obtain ⟨b2, hb2⟩ : ∃ b, Q[Q.length - 1]? = some b := ⟨_, List.getElem?_eq_getElem (by omega)⟩
    obtain ⟨i2, m2, c1, c2, _⟩ := h.at_ _ _ hb2
    have e1 : nd s Q Q.length = b2 := by
      have := nd_succ (s := s) hb2
      rwa [show Q.length - 1 + 1 = Q.length by omega] at this
    have e2 : nd 0 I Q.length = i2 := by
      have := nd_succ (s := 0) c1
      rwa [show Q.length - 1 + 1 = Q.length by omega] at this
    rw [e1] at h3
    have := hb.inj _ _ _ _ _ h3 c2
    omega
theorem Chn.node (h : Chn st s By P Q I) (hb : BfI st s n t D By P) {k : Nat} (h0 : 0 < k) (hk : k ≤ Q.length) : nd s Q k ≠ s ∧ nd s Q k < n ∧ By[nd s Q k]? = some (nd s Q (k - 1) : Int) ∧ Q[k - 1]? = some (nd s Q k) := by
  obtain ⟨b, hb2⟩ : ∃ b, Q[k - 1]? = some b := ⟨_, List.getElem?_eq_getElem (by omega)⟩
  obtain ⟨i, m, a1, a2, a3, a4, _⟩ := h.at_ _ _ hb2
  have e1 : nd s Q k = b := by
    have := nd_succ (s := s) hb2
    rwa [show k - 1 + 1 = k by omega] at this
  rw [e1]
  obtain ⟨c1, c2, _⟩ := hb.q _ _ _ a2
  refine ⟨fun e => ?_, c1, a4, hb2⟩
  rw [e] at c2
  have := (hb.q _ _ _ hb.z).2.1
  rw [c2] at this; simp at this; omega
end
end Go.Proofs.YthchoknhkhfdnaaDoor

namespace Go.Proofs.YthchoknhkhfdnaaDoor
set_option linter.unusedVariables false
set_option linter.unusedSimpArgs false
open Go.RowKit

theorem Own.set1 {α : Type} {K : Kd α} {enc : α → Value} (hK : K1 K enc) {e : TypeId} {w : World} {g n cap : Nat} {l : List α} (h : Own K e w (.slice (some ⟨g, 0, none⟩) n cap) l) (i : Nat) (x : α) (hi : i < l.length) :
    Own K e (w.setCell ⟨g, i, none⟩ (enc x)) (.slice (some ⟨g, 0, none⟩) n cap) (l.set i x) := by
  rcases h with ⟨h, _⟩ | ⟨g', cap', cur, h0, h1, h2, h3, h4, h5⟩
  · simp at h
  · simp only [Value.slice.injEq, Option.some.injEq, Addr.mk.injEq] at h0
    obtain ⟨⟨rfl, _⟩, rfl, rfl⟩ := h0
    refine .inr ⟨g, cap, cur.setIfInBounds i (enc x), by rw [List.length_set], ?_, by rw [List.length_set]; exact h2, h3, by simpa using h4, ?_⟩
    · exact blk_set h1 i (enc x)
    · rw [List.length_set, hK.encs, hK.sz, Nat.mul_one] at *
      rw [List.map_set, ← h5, Array.toList_setIfInBounds, List.take_set]
theorem ownI_free {w : World} {e : TypeId} {g n cap : Nat} {l : List Int} (h : Own IK e w (.slice (some ⟨g, 0, none⟩) n cap) l) (i : Nat) : w.frozen? ⟨g, i, none⟩ = false := by
  rcases h with ⟨h, _⟩ | ⟨g', cap', cur, h0, h1, _⟩
  · simp at h
  · simp only [Value.slice.injEq, Option.some.injEq, Addr.mk.injEq] at h0
    obtain ⟨⟨rfl, _⟩, _⟩ := h0
    exact blk_free h1 i
def RvI (l L : List Int) (k : Nat) : Prop := L.length = l.length ∧ ∀ p, p < l.length → L[p]? = if p < k ∨ l.length ≤ p + k then l[l.length - 1 - p]? else l[p]?
theorem RvI.zero (l : List Int) : RvI l l 0 := ⟨rfl, fun p hp => by rw [if_neg (by omega)]⟩
theorem RvI.step {l L : List Int} {k : Nat} (h : RvI l L k) (hk : 2 * k + 1 < l.length) {a b : Int} (ha : L[k]? = some a) (hb : L[l.length - 1 - k]? = some b) : RvI l ((L.set k b).set (l.length - 1 - k) a) (k + 1) := by
  obtain ⟨h1, h2⟩ := h
  refine ⟨by simp [h1], fun p hp => ?_⟩
  have ea := h2 k (by omega)
  rw [if_neg (by omega), ha] at ea
  have eb := h2 (l.length - 1 - k) (by omega)
  rw [if_neg (by omega), hb] at eb
  rw [List.getElem?_set, List.length_set, h1]
  by_cases e1 : l.length - 1 - k = p
  · rw [if_pos e1, if_pos (by omega), if_pos (by omega), ← e1, show l.length - 1 - (l.length - 1 - k) = k by omega, ← ea]
  · rw [if_neg e1, List.getElem?_set, h1]
    by_cases e2 : k = p
    · subst e2
      rw [if_pos rfl, if_pos (by omega), if_pos (by omega), ← eb]
    · rw [if_neg e2, h2 p hp]
      by_cases e3 : p < k ∨ l.length ≤ p + k
      · rw [if_pos e3, if_pos (by omega)]
      · rw [if_neg e3, if_neg (by omega)]
theorem RvI.done {l L : List Int} {k : Nat} (h : RvI l L k) (hk : l.length ≤ 2 * k + 1) : L = l.reverse := by
  apply List.ext_getElem?
  intro p
  rcases Nat.lt_or_ge p l.length with hp | hp
  · rw [h.2 p hp, List.getElem?_reverse hp]
    split
    · rfl
    · congr 1; omega
  · rw [List.getElem?_eq_none (by rw [h.1]; exact hp), List.getElem?_eq_none (by simpa using hp)]

set_option maxHeartbeats 1000000 in
set_option maxRecDepth 100000 in
theorem revI_any {w : World} {v : Value} {l : List Int} (hv : Own IK 3 w v l) (hl : l.length ≤ 1000000) :
    Calls Tryd.prog 27 #[v] w fun e w' => e = .returned (.tuple #[]) ∧ Own IK 3 w' v l.reverse ∧ Kp (fun k => v.ownBlock = some k) w w' := by
  obtain ⟨A, c, rfl⟩ := hv.rd.shape
  obtain ⟨n, hn⟩ : ∃ n, n = l.length := ⟨_, rfl⟩
  rw [← hn] at hv hl ⊢
  have H := Lib.hid hv; have HN := Lib.hid hn
  have hwn : IntKind.i64.wrap ((n : Int) - 1) = (n : Int) - 1 := IntWalk.i64_in _ (by omega)
  clear hv hn
  go_enter Tryd.func27, Tryd.ntmps27
  go_wp2_with fail
  go_loopg [2, 3] (n + 1) (fun g_ iv jv wx => ∃ (k : Nat) (L : List Int), g_ = n + 1 - k ∧ iv = .int .i64 k ∧ jv = .int .i64 ((n : Int) - 1 - k) ∧ k ≤ n ∧ RvI l L k ∧ Own IK 3 wx (.slice A n c) L ∧ Kp (fun k => (Value.slice A n c).ownBlock = some k) w wx)
  case atStart => exact ⟨0, l, rfl, rfl, by simp, by omega, RvI.zero l, H.out, Kp.refl _ _⟩
  case round =>
    obtain ⟨k, L, hg, rfl, rfl, hk, rv, ow, kp⟩ := hrel
    have RV := Lib.hid rv; have OW := Lib.hid ow; have KP := Lib.hid kp
    clear rv ow kp
    by_cases hlt : 2 * k + 1 < n
    · have hltI : (k : Int) < (n : Int) - 1 - (k : Int) := by omega
      obtain ⟨j, hj⟩ : ∃ j : Nat, j = n - 1 - k := ⟨_, rfl⟩
      have hjI : (n : Int) - 1 - (k : Int) = (j : Int) := by omega
      rw [hjI] at hltI ⊢
      have hkn : (k : Int) < (n : Int) := by omega
      have hjn : (j : Int) < (n : Int) := by omega
      have hwi : IntKind.i64.wrap ((k : Int) + 1) = (k : Int) + 1 := IntWalk.i64_in _ (by omega)
      have hwj : IntKind.i64.wrap ((j : Int) - 1) = (j : Int) - 1 := IntWalk.i64_in _ (by omega)
      have hLl : L.length = n := by rw [RV.out.1, HN.out]
      obtain ⟨a, ha⟩ : ∃ a, L[k]? = some a := ⟨_, List.getElem?_eq_getElem (by omega)⟩
      obtain ⟨b, hb⟩ : ∃ b, L[j]? = some b := ⟨_, List.getElem?_eq_getElem (by omega)⟩
      have RV2 := Lib.hid (show RvI l ((L.set k b).set j a) (k + 1) by
        have := RV.out.step (by rw [← HN.out]; exact hlt) ha (by rw [← HN.out, ← hj]; exact hb)
        rwa [← HN.out, ← hj] at this)
      rcases OW.out.b with ⟨hv, _⟩ | ⟨g, cap', hv, _, _, _⟩
      · simp only [Value.slice.injEq] at hv; omega
      simp only [Value.slice.injEq] at hv
      obtain ⟨rfl, _, _⟩ := hv
      have hca : wr.cell? ⟨g, k, none⟩ = some (.int .i64 a) := by have := OW.out.rd.intAt ha; simpa using this
      have hcb : wr.cell? ⟨g, j, none⟩ = some (.int .i64 b) := by have := OW.out.rd.intAt hb; simpa using this
      have hfa := ownI_free OW.out k
      have hfb := ownI_free OW.out j
      have O1 := OW.out.set1 IK1 k b (by omega)
      have hcb' : (wr.setCell ⟨g, k, none⟩ (.int .i64 b)).cell? ⟨g, j, none⟩ = some (.int .i64 b) := by
        have := O1.rd.intAt (i := j) (x := b) (by rw [List.getElem?_set, if_neg (by omega)]; exact hb); simpa using this
      have hfb' := ownI_free O1 j
      have O2 := Lib.hid (O1.set1 IK1 j a (by rw [List.length_set]; omega))
      have K2 := Lib.hid ((KP.out.setCell (p := ⟨g, k, none⟩) (fun _ => rfl) (.int .i64 b)).setCell (p := ⟨g, j, none⟩) (fun _ => rfl) (.int .i64 a))
      have HJ := Lib.hid hj
      clear ha hb hLl hlt hj O1
      go_wp2_with fail
      go_region
      go_wp2_with fail
      go_roundg (n + 1 - (k + 1))
      case measure => omega
      case rel => exact ⟨k + 1, _, rfl, by go_num, by simp; omega, by omega, RV2.out, O2.out.kpNo ((Kp.refl No _).drew), K2.out.no ((Kp.refl No _).drew)⟩
    · have hd0 : ¬ (k : Int) < (n : Int) - 1 - (k : Int) := by omega
      have HE := Lib.hid (RV.out.done (by rw [← HN.out]; omega))
      clear hlt
      go_wp2_with fail
      go_end0
      exact ⟨rfl, by rw [← HE.out]; exact OW.out, KP.out⟩
end Go.Proofs.YthchoknhkhfdnaaDoor

namespace Go.Proofs.YthchoknhkhfdnaaDoor
set_option linter.unusedVariables false
set_option linter.unusedSimpArgs false
open Go.RowKit

/-- Is there such a cell, and no wall? -/
def opB (f : Flr) (c : Int) : Bool := decide (0 ≤ c) && decide (c < f.s.size) && (bt f.s c.toNat != 35)
set_option maxHeartbeats 1000000 in
set_option maxRecDepth 100000 in
theorem ptFind_arg (f : Flr) (hsz : f.s.size ≤ 1000000) (fr tg : Int) {bv : Value} {B : List Int} {w : World} (hB : Rd IK w bv B) (h : ptOk f fr = false ∨ opB f tg = false) :
    Calls Tryd.prog 16 #[f.val, .int .i64 fr, .int .i64 tg, bv] w fun e w' => e = .returned (.tuple #[.slice none 0 0, .int .i64 1]) ∧ Kp No w w' := by
  have HBX := Lib.hid (BxW.new f w)
  cases hok : ptOk f fr with
  | false =>
    have HO := Lib.hid (ptof_no f hsz fr bv hok)
    obtain ⟨X, Y, s⟩ := f
    unfold Flr.val at HO ⊢
    clear hok hsz hB h
    go_enter Tryd.func16, Tryd.ntmps16
    go_wp2_with (go_at_call 23; refine (HO.out _).mono ?_; rintro e w1 ⟨rfl, kp1⟩; have K1 := Lib.hid kp1; clear kp1)
    go_ret2
    exact ⟨rfl, HBX.out.kp.no K1.out⟩
  | true =>
    obtain ⟨k, rfl, hk, hr⟩ := ptOk_nat hok
    have h2 : opB f tg = false := by rcases h with h | h; rw [hok] at h; simp at h; exact h
    have HO := Lib.hid (ptof_ok f hsz k (w := w.alloc (.cells #[.int .i64 f.W, .int .i64 f.H, .string f.s] 23)) (hB.alloc _) hok)
    obtain ⟨n, hn⟩ : ∃ n, n = f.s.size := ⟨_, rfl⟩
    have hnI : ((f.s.size : Nat) : Int) = (n : Int) := by omega
    unfold opB at h2
    by_cases h0 : tg < 0
    · have h0b : decide (tg < 0) = true := by simpa using h0
      obtain ⟨X, Y, s⟩ := f
      simp only at hnI
      unfold Flr.val at HO ⊢
      clear hok hsz hB h hk hr h2 hn
      go_enter Tryd.func16, Tryd.ntmps16
      go_wp2_with fail
      refine HO.out.mono ?_
      rintro e w1 ⟨p, g1, g2, g3, Vs, rfl, pl, kp1⟩
      have K1 := Lib.hid (HBX.out.kp.no kp1)
      clear pl kp1
      go_wp2_with fail
      go_ret2
      exact ⟨rfl, K1.out⟩
    · by_cases h1 : (n : Int) ≤ tg
      · obtain ⟨X, Y, s⟩ := f
        simp only at hnI
        unfold Flr.val at HO ⊢
        clear hok hsz hB h hk hr h2 hn
        go_enter Tryd.func16, Tryd.ntmps16
        go_wp2_with fail
        refine HO.out.mono ?_
        rintro e w1 ⟨p, g1, g2, g3, Vs, rfl, pl, kp1⟩
        have B1 := Lib.hid (HBX.out.no kp1)
        have hb2 : w1.cell? ⟨w.heap.size, 2, none⟩ = some (.string s) := B1.out.c2
        clear pl kp1
        go_wp2_with fail
        go_ret2
        exact ⟨rfl, B1.out.kp⟩
      · obtain ⟨j, rfl⟩ : ∃ j : Nat, tg = j := ⟨tg.toNat, by omega⟩
        have h35 : bt f.s j = 35 := by
          simp at h2; first | exact h2 | exact h2 (by omega) | exact h2 (by omega) (by omega)
        have hjs : j < f.s.size := by omega
        have hbt := bt_at f.s j hjs
        rw [h35] at hbt
        obtain ⟨X, Y, s⟩ := f
        simp only at hnI hbt hjs
        have hbs : ((s[j]'hjs).toNat : Int) = 35 := by rw [hbt]; rfl
        unfold Flr.val at HO ⊢
        clear hok hsz hB h hk hr h2 hn h35
        go_enter Tryd.func16, Tryd.ntmps16
        go_wp2_with fail
        refine HO.out.mono ?_
        rintro e w1 ⟨p, g1, g2, g3, Vs, rfl, pl, kp1⟩
        have B1 := Lib.hid (HBX.out.no kp1)
        have hb2 : w1.cell? ⟨w.heap.size, 2, none⟩ = some (.string s) := B1.out.c2
        clear pl kp1
        go_wp2_with fail
        go_ret2
        exact ⟨rfl, B1.out.kp⟩
end Go.Proofs.YthchoknhkhfdnaaDoor

namespace Go.Proofs.YthchoknhkhfdnaaDoor
set_option linter.unusedVariables false
set_option linter.unusedSimpArgs false
open Go.RowKit

def FindO (f : Flr) (fr tg : Nat) (B : List Int) (w : World) (e : Ending) (w' : World) : Prop :=
  (dst (stepsP f fr B) fr tg < 0 ∧ e = .returned (.tuple #[.slice none 0 0, .int .i64 2]) ∧ Kp No w w') ∨
  ∃ Q A q, dst (stepsP f fr B) fr tg = (List.length Q : Int) ∧ FstW (stepsP f fr B) fr tg Q ∧ e = .returned (.tuple #[.slice A Q.length q, .int .i64 0]) ∧ NewS IK 3 w w' (.slice A Q.length q) (ints Q)
theorem drop_rev {Q : List Nat} {j b : Nat} (h : Q[j]? = some b) : (Q.drop j).reverse = (Q.drop (j + 1)).reverse ++ [b] := by
  have hl := (List.getElem?_eq_some_iff.1 h).1
  rw [List.drop_eq_getElem_cons hl, List.reverse_cons, (List.getElem?_eq_some_iff.1 h).2]

set_option maxHeartbeats 1000000 in
set_option maxRecDepth 100000 in
theorem ptFind_any (f : Flr) (hsz : f.s.size ≤ 1000000) (k c : Nat) {bv : Value} {B : List Int} {w : World} (hB : Rd IK w bv B) (hok : ptOk f k = true) (hop : opB f c = true) :
    Calls Tryd.prog 16 #[f.val, .int .i64 (k : Int), .int .i64 (c : Int), bv] w (FindO f k c B w) := by
  have HBX := Lib.hid (BxW.new f w)
  obtain ⟨k', hkk, hk, hr⟩ := ptOk_nat hok
  obtain rfl : k = k' := by omega
  clear hkk
  have HO := Lib.hid (ptof_ok f hsz k (w := w.alloc (.cells #[.int .i64 f.W, .int .i64 f.H, .string f.s] 23)) (hB.alloc _) hok)
  have hs256 : f.s.size ≤ 256 := hr.s256
  obtain ⟨n, hn⟩ : ∃ n, n = f.s.size := ⟨_, rfl⟩
  have hnI : ((f.s.size : Nat) : Int) = (n : Int) := by omega
  unfold opB at hop
  simp only [Bool.and_eq_true, decide_eq_true_eq, bne_iff_ne, Int.toNat_natCast] at hop
  obtain ⟨⟨_, hc⟩, h35⟩ := hop
  have hcn : c < n := by omega
  have hcnI : (c : Int) < (n : Int) := by omega
  have hjs : c < f.s.size := by omega
  have hbt := bt_at f.s c hjs
  have h35b : ((bt f.s c : Int) == 35) = false := by simp; omega
  have HK := Lib.hid hk; have HR := Lib.hid hr; have HN := Lib.hid hn
  obtain ⟨F, hF⟩ : ∃ F, F = f := ⟨_, rfl⟩
  have HF := Lib.hid hF
  rw [← hF] at HK HR HN
  obtain ⟨X, Y, s⟩ := f
  simp only at hnI hbt hjs h35b
  have hbs : ((s[c]'hjs).toNat : Int) = (bt s c : Int) := by rw [hbt]
  rw [show FindO ⟨X, Y, s⟩ k c B w = FindO F k c B w by rw [hF]]
  unfold FindO
  obtain ⟨N, hNd⟩ : ∃ N, N = dst (stepsP F k B) k c := ⟨_, rfl⟩
  rw [← hNd]
  have HND := Lib.hid hNd
  have hn256 : n ≤ 256 := by omega
  unfold Flr.val at HO ⊢
  clear hok hsz hB h35 hk hr hn hF hs256 hNd
  go_enter Tryd.func16, Tryd.ntmps16
  go_wp2_with fail
  refine HO.out.mono ?_
  rintro e w1 ⟨p, g1, g2, g3, Vs, rfl, pl, kp1⟩
  have DI := Lib.hid (ptdist_any (f := F) HR.out (by rw [HF.out]; exact pl) HK.out)
  have B1 := Lib.hid (HBX.out.no kp1)
  have hb2 : w1.cell? ⟨w.heap.size, 2, none⟩ = some (.string s) := B1.out.c2
  clear pl kp1
  go_wp2_with fail
  refine DI.out.mono ?_
  rintro e w2 ⟨gd, gb, D, By, P, t, rfl, bd, bb, _, hgd, hgb, kp2, ht, bi⟩
  have hlD := bi.lenD
  rw [← HN.out] at hlD bi ⊢
  have K2 := Lib.hid (B1.out.kp.no kp2)
  obtain ⟨d, hd⟩ : ∃ d, D[c]? = some d := ⟨_, List.getElem?_eq_getElem (by omega)⟩
  have hcd : w2.cell? ⟨gd, c, none⟩ = some (.int .i64 d) := bd.get hd
  have HD := Lib.hid (show N = d by
    have h1 := bi.dl ht
    rw [h1, distL_get hcn] at hd
    rw [HND.out]; exact Option.some.inj hd)
  clear hb2 kp2 hgd hgb
  by_cases h0 : d < 0
  · clear bi ht bb bd hd
    go_wp2_with fail
    go_ret2
    exact .inl ⟨by rw [HD.out]; exact h0, rfl, K2.out⟩
  · rcases bi.on c d hd with e1 | ⟨i, kk, hP⟩
    · omega
    · have e2 := (bi.q _ _ _ hP).2.1
      rw [hd] at e2; simp at e2
      have hkk : kk ≤ n := by have := bi.key _ _ _ hP; have := bi.len; have := (List.getElem?_eq_some_iff.1 hP).1; omega
      obtain ⟨Q, I, q1, q2, _, q4⟩ := bi.chain i kk c hP
      have FS := Lib.hid (show FstW (stepsP F k B) k c Q by have := q4.fst bi; rwa [q1, q2] at this)
      have NO := Lib.hid (fun j h1 h2 => q4.node bi (k := j) h1 h2)
      have Q1 := Lib.hid q1
      have Q2 := Lib.hid q2
      have BB := Lib.hid bb
      have HE := Lib.hid (show N = (kk : Int) by rw [HD.out]; omega)
      clear bi ht bb bd hd hP q1 q4 q2 hlD DI e2
      go_wp2_with fail
      go_loopg [14, 15] (kk + 1) (fun g_ ov av wx => ∃ (i : Nat) (A : Option Addr) (q : Nat), g_ = kk + 1 - i ∧ i ≤ kk ∧ av = .int .i64 (nd k Q (kk - i) : Nat) ∧ ov = .slice A i q ∧ NewS IK 3 w2 wx (.slice A i q) (ints (Q.drop (kk - i)).reverse))
      case atStart => exact ⟨0, none, 0, rfl, by omega, by rw [Nat.sub_zero, Q2.out], rfl, by
        rw [Nat.sub_zero, List.drop_eq_nil_of_le (by rw [Q1.out]; exact Nat.le_refl _)]; exact NewS.nil _ _ _⟩
      case round =>
        obtain ⟨i, A, q, hg, hi, rfl, rfl, ns⟩ := hrel
        have NS := Lib.hid ns
        clear ns hcd
        by_cases hlt : i < kk
        · obtain ⟨n1, n2, n3, n4⟩ := NO.out (kk - i) (by omega) (by rw [Q1.out]; omega)
          have hu := drop_rev n4
          rw [show kk - i - 1 + 1 = kk - i by omega] at hu
          obtain ⟨u, hu2⟩ : ∃ u, u = nd k Q (kk - i) := ⟨_, rfl⟩
          obtain ⟨v, hv2⟩ : ∃ v, v = nd k Q (kk - i - 1) := ⟨_, rfl⟩
          rw [← hu2] at n1 n2 n3 hu ⊢
          rw [← hv2] at n3
          have hub : ((u : Int) != (k : Int)) = true := by simp; omega
          have hun : (u : Int) < (n : Int) := by omega
          have HU := Lib.hid hu; have HV := Lib.hid hv2
          have N3 := Lib.hid n3
          have HLT := Lib.hid hlt
          clear hu hu2 hv2 n1 n2 n3 n4 hlt
          go_wp2_with (at_builtin; refine wpl_snocI (m := i) rfl (.tmp 61) (.tmp 63) rfl rfl rfl rfl NS.out (by rw [List.length_reverse, List.length_drop, Q1.out]; omega) (by omega) ?_; intro A2 q2 w4 m4 k4 _; have N4 := Lib.hid m4; have hcb : w4.cell? ⟨gb, u, none⟩ = some (.int .i64 (v : Int)) := (BB.out.kpNo N4.out.kp).get N3.out; clear m4 k4)
          go_roundg (kk + 1 - (i + 1))
          case measure => omega
          case rel => exact ⟨i + 1, A2, q2, rfl, by have := HLT.out; omega, by rw [show kk - (i + 1) = kk - i - 1 by omega, ← HV.out], rfl, by rw [show kk - (i + 1) = kk - i - 1 by omega, HU.out]; exact N4.out⟩
        · obtain rfl : i = kk := by omega
          have hQl : (Q.drop (i - i)).reverse = Q.reverse := by rw [Nat.sub_self]; rfl
          have hns := NS.out
          rw [hQl] at hns
          have RV := Lib.hid (revI_any hns.own (by rw [ints_len, List.length_reverse, Q1.out]; omega))
          have NR := Lib.hid hns
          have e0 : nd k Q (i - i) = k := by rw [Nat.sub_self]; rfl
          rw [e0]
          have hkb : ((k : Int) != (k : Int)) = false := by simp
          clear hlt hns hQl e0
          go_wp2_with fail
          refine RV.out.mono ?_
          rintro e w5 ⟨rfl, ow, kp5⟩
          have N5 := Lib.hid (show NewS IK 3 w w5 (.slice A i q) (ints Q) from
            ⟨by rw [show (ints Q.reverse).reverse = ints Q by simp [ints]] at ow; exact ow, fun g hg => Nat.le_trans K2.out.size (NR.out.ge g hg), (K2.out.no NR.out.kp).trans' kp5 (fun j hj e => by have := NR.out.ge j e; have := K2.out.size; omega)⟩)
          clear ow kp5
          go_wp2_with fail
          go_ret2
          exact .inr ⟨Q, A, q, by rw [HE.out, Q1.out], FS.out, by rw [Q1.out]; rfl, by rw [Q1.out]; exact N5.out⟩
end Go.Proofs.YthchoknhkhfdnaaDoor

namespace Go.Proofs.YthchoknhkhfdnaaDoor
set_option linter.unusedVariables false
set_option linter.unusedSimpArgs false
open Go.RowKit

set_option maxRecDepth 100000 in
theorem idxI_any {w : World} {v : Value} {l : List Int} (hv : Rd IK w v l) (x : Int) :
    Calls Tryd.prog 49 #[v, .int .i64 x] w fun e w' => ∃ i : Int, e = .returned (.int .i64 i) ∧ (0 ≤ i ↔ x ∈ l) ∧ Kp No w w' := by
  have hl := hv.lenI
  obtain ⟨A, c, rfl⟩ := hv.shape
  obtain ⟨n, hn⟩ : ∃ n, n = l.length := ⟨_, rfl⟩
  rw [← hn] at hv hl ⊢
  have H := Lib.hid hv; have HN := Lib.hid hn
  unfold maxLen at hl
  clear hv hn
  go_enter Tryd.func49, Tryd.ntmps49
  go_wp2_with fail
  go_loopg [8] (n + 1) (fun g_ iv wx => ∃ i : Nat, g_ = n + 1 - i ∧ iv = .int .i64 i ∧ i ≤ n ∧ (∀ y ∈ l.take i, y ≠ x) ∧ Kp No w wx)
  case atStart => exact ⟨0, rfl, rfl, by omega, by simp, Kp.refl _ _⟩
  case round =>
    obtain ⟨i, hg, rfl, hi, hno, kp⟩ := hrel
    have NO := Lib.hid hno; have KP := Lib.hid kp
    clear hno kp
    by_cases hlt : i < n
    · have hltI : (i : Int) < (n : Int) := by omega
      have hwi : IntKind.i64.wrap ((i : Int) + 1) = (i : Int) + 1 := IntWalk.i64_in _ (by omega)
      obtain ⟨y, hy⟩ : ∃ y, l[i]? = some y := ⟨_, List.getElem?_eq_getElem (by rw [← HN.out]; exact hlt)⟩
      rcases H.out with ⟨_, he⟩ | ⟨g, o, cap', hv, _⟩
      · have := HN.out; rw [he, List.length_nil] at this; omega
      simp only [Value.slice.injEq] at hv
      obtain ⟨rfl, hzz, rfl⟩ := hv
      clear hzz
      have hc := (H.out.kpNo KP.out).intAt hy
      have HY := Lib.hid hy
      clear hy hlt
      by_cases hxy : x = y
      · subst hxy
        go_wp2_with fail
        go_ret
        exact ⟨i, rfl, ⟨fun _ => List.mem_of_getElem? HY.out, fun _ => by omega⟩, KP.out⟩
      · have hb : (x == y) = false := by simpa using hxy
        have NO2 := Lib.hid (show ∀ z ∈ l.take (i + 1), z ≠ x from fun z hz => by
          rw [List.take_add_one, HY.out] at hz
          rcases List.mem_append.1 hz with h | h
          · exact NO.out z h
          · simp at h; subst h; exact fun e => hxy e.symm)
        clear hxy
        go_wp2_with fail
        go_roundg (n + 1 - (i + 1))
        case measure => omega
        case rel => exact ⟨i + 1, rfl, by go_num, by omega, NO2.out, KP.out⟩
    · obtain rfl : i = n := by omega
      have hd0 : ¬ (i : Int) < (i : Int) := by omega
      have NO2 := Lib.hid (show x ∉ l from fun h => by
        have := NO.out x (by rw [HN.out, List.take_length]; exact h)
        exact this rfl)
      clear hlt
      go_wp2_with fail
      go_ret
      exact ⟨-1, rfl, ⟨fun h => by omega, fun h => absurd h NO2.out⟩, KP.out⟩
set_option maxRecDepth 100000 in
theorem conI_any {w : World} {v : Value} {l : List Int} (hv : Rd IK w v l) (x : Int) (b : Bool) (hb : b = decide (x ∈ l)) :
    Calls Tryd.prog 31 #[v, .int .i64 x] w fun e w' => e = .returned (.bool b) ∧ Kp No w w' := by
  have HI := Lib.hid (idxI_any hv x)
  have HB := Lib.hid hb
  clear hv hb
  go_enter Tryd.func31, Tryd.ntmps31
  go_wp2_with fail
  refine HI.out.mono ?_
  rintro e w1 ⟨i, rfl, hi, kp⟩
  have HE := Lib.hid (show decide (0 ≤ i) = b by rw [HB.out, decide_eq_decide]; exact hi)
  have K1 := Lib.hid kp
  clear hi kp
  go_wp2_with fail
  go_ret
  exact ⟨by have := HE.out; simp at this ⊢; exact this, K1.out⟩
end Go.Proofs.YthchoknhkhfdnaaDoor

namespace Go.Proofs.YthchoknhkhfdnaaDoor
set_option linter.unusedVariables false
set_option linter.unusedSimpArgs false
open Go.RowKit

set_option maxRecDepth 100000 in
theorem qdock_any (c : Nat) (b : Bool) (hb : b = (kindB c == 3)) (w : World) : Calls Tryd.prog 61 #[.int .u8 (c : Int)] w fun e w' => e = .returned (.bool b) ∧ w' = w := by
  have HB := Lib.hid hb
  clear hb
  by_cases h1 : 48 ≤ c
  · have h1I : (48 : Int) ≤ (c : Int) := by omega
    by_cases h2 : c ≤ 55
    · have h2I : (c : Int) ≤ 55 := by omega
      have e : b = true := by rw [HB.out]; unfold kindB; rw [if_neg (by omega), if_neg (by omega), if_pos (by omega)]; rfl
      subst e
      clear h1 h2
      go_enter Tryd.func61, Tryd.ntmps61
      go_wp2
      go_ret
      exact ⟨rfl, rfl⟩
    · have h2I : ¬ (c : Int) ≤ 55 := by omega
      have e : b = false := by rw [HB.out]; unfold kindB; rw [if_neg (by omega)]; split; rfl; rw [if_neg (by omega)]; rfl
      subst e
      clear h1 h2
      go_enter Tryd.func61, Tryd.ntmps61
      go_wp2
      go_ret
      exact ⟨rfl, rfl⟩
  · have h1I : ¬ (48 : Int) ≤ (c : Int) := by omega
    have e : b = false := by rw [HB.out]; unfold kindB; split; rfl; rw [if_neg (by omega), if_neg (by omega)]; rfl
    subst e
    clear h1
    go_enter Tryd.func61, Tryd.ntmps61
    go_wp2
    go_ret
    exact ⟨rfl, rfl⟩
set_option maxRecDepth 100000 in
theorem qlane_any (c : Nat) (b : Bool) (hb : b = (kindB c == 2)) (w : World) : Calls Tryd.prog 62 #[.int .u8 (c : Int)] w fun e w' => e = .returned (.bool b) ∧ w' = w := by
  have HB := Lib.hid hb
  clear hb
  by_cases h1 : 97 ≤ c
  · have h1I : (97 : Int) ≤ (c : Int) := by omega
    by_cases h2 : c ≤ 122
    · have h2I : (c : Int) ≤ 122 := by omega
      have e : b = true := by rw [HB.out]; unfold kindB; rw [if_neg (by omega), if_pos (by omega)]; rfl
      subst e
      clear h1 h2
      go_enter Tryd.func62, Tryd.ntmps62
      go_wp2
      go_ret
      exact ⟨rfl, rfl⟩
    · have h2I : ¬ (c : Int) ≤ 122 := by omega
      have e : b = false := by rw [HB.out]; unfold kindB; rw [if_neg (by omega), if_neg (by omega), if_neg (by omega)]; rfl
      subst e
      clear h1 h2
      go_enter Tryd.func62, Tryd.ntmps62
      go_wp2
      go_ret
      exact ⟨rfl, rfl⟩
  · have h1I : ¬ (97 : Int) ≤ (c : Int) := by omega
    have e : b = false := by rw [HB.out]; unfold kindB; split; rfl; rw [if_neg (by omega)]; split <;> rfl
    subst e
    clear h1
    go_enter Tryd.func62, Tryd.ntmps62
    go_wp2
    go_ret
    exact ⟨rfl, rfl⟩

set_option maxHeartbeats 1000000 in
set_option maxRecDepth 100000 in
theorem qbeside_any (W H c : Nat) (s : ByteArray) (hW1 : 1 ≤ W) (hW : W ≤ 16) (hH1 : 1 ≤ H) (hH : H ≤ 16) (hc : c < W * H) (w : World) :
    Calls Tryd.prog 64 #[(Flr.mk W H s).val, .int .i64 (c : Int)] w fun e w' => ∃ v, e = .returned v ∧ NewS IK 3 w w' v (ints (besideP W H c)) := by
  have HBX := Lib.hid (BxW.new (Flr.mk W H s) w)
  unfold Flr.val
  obtain ⟨x, hx⟩ : ∃ x, x = c % W := ⟨_, rfl⟩
  obtain ⟨y, hy⟩ : ∃ y, y = c / W := ⟨_, rfl⟩
  have hxW : x < W := by rw [hx]; exact Nat.mod_lt _ hW1
  have hyH : y < H := by rw [hy]; exact Nat.div_lt_of_lt_mul hc
  have hcy : W * y + x = c := by rw [hx, hy]; exact Nat.div_add_mod c W
  have hc256 : c < 256 := Nat.lt_of_lt_of_le hc (Nat.mul_le_mul hW hH)
  have hxI : (c : Int).tmod (W : Int) = (x : Int) := by rw [Int.tmod_eq_emod_of_nonneg (by omega), hx]; rfl
  have hyI : (c : Int).tdiv (W : Int) = (y : Int) := by rw [Int.tdiv_eq_ediv_of_nonneg (by omega), hy]; rfl
  have hxJ : (c : Int) % (W : Int) = (x : Int) := by rw [hx]; rfl
  have hyJ : (c : Int) / (W : Int) = (y : Int) := by rw [hy]; rfl
  have hyW : IntKind.i64.wrap (y : Int) = (y : Int) := IntWalk.i64_in _ (by omega)
  have hW0 : (W : Int) ≠ 0 := by omega
  have hW0b : ((W : Int) == 0) = false := by simp; omega
  have hxc : x ≤ c := by omega
  have hyc : 0 < y → W ≤ c := fun h => by
    have : W * 1 ≤ W * y := Nat.mul_le_mul_left W h
    omega
  have HX := Lib.hid hx; have HY := Lib.hid hy; have HYC := Lib.hid hyc
  clear hx hy hcy hc hyc
  go_enter Tryd.func64, Tryd.ntmps64
  obtain ⟨w3, hw3⟩ : ∃ w3, w3 = w.alloc (.cells #[.int .i64 (W : Int), .int .i64 (H : Int), .string s] 23) := ⟨_, rfl⟩
  have B3 := Lib.hid (show BxW (Flr.mk W H s) w.heap.size w w3 by rw [hw3]; exact HBX.out)
  have NS := Lib.hid (show NewS IK 3 w3 w3 (.slice none 0 0) (ints (bsA W H c 0)) from NewS.nil _ _ _)
  go_upto_region 3 with fail
  go_cut [5, 7, 12, 13, 14, 15] (fun v y' _ _ _ _ wx => ∃ A m q, v = .slice A m q ∧ m = (bsA W H c 0).length ∧ NewS IK 3 w3 wx v (ints (bsA W H c 0)) ∧ y' = .int .i64 (y : Int))
  case first =>
    go_wp2_with fail
    go_meet
    exact ⟨none, 0, 0, rfl, rfl, by rw [← hw3]; exact NS.out, rfl⟩
  case rest =>
    clear NS hw3 hxI hyI hxJ hyJ hyW hW0 hW0b
    obtain ⟨A, m, q, rfl, hm, ns, rfl⟩ := hcut
    have NS := Lib.hid ns; have HM := Lib.hid hm
    have hm4 : m ≤ 4 := by rw [hm]; exact Nat.le_trans (bsA_len W H c 0) (by omega)
    have hb0 := (B3.out.no ns.kp).c0; have hb1 := (B3.out.no ns.kp).c1
    simp only at hb0 hb1
    clear hm ns
    go_upto_if 17 with fail
    go_cut [5, 18, 19, 20, 21, 22, 23, 24] (fun v _ _ _ _ _ _ _ wx => ∃ A m q, v = .slice A m q ∧ m = (bsA W H c 1).length ∧ NewS IK 3 w3 wx v (ints (bsA W H c 1)))
    case first =>
      have HA := Lib.hid (bsA_succ W H c 0)
      by_cases hd : 0 < y
      · have HP := Lib.hid (show bsA W H c 1 = bsA W H c 0 ++ [c - W] by rw [HA.out]; congr 1; show (if _ then _ else _) = _; rw [if_pos (by first | (rw [← HX.out]; exact hd) | (rw [← HY.out]; exact hd))])
        have hWc := HYC.out hd
        have hv : (0 : Int) ≤ ((c : Int) - (W : Int)) ∧ ((c : Int) - (W : Int)) ≤ 512 := by omega
        have hvw : IntKind.i64.wrap ((c : Int) - (W : Int)) = ((c : Int) - (W : Int)) := IntWalk.i64_in _ (by omega)
        have hdI : (0 : Int) < (y : Int) := by omega
        go_wp2_with (at_builtin; refine wpl_snocZ (n := c - W) rfl (.tmp 18) (.tmp 23) rfl rfl rfl rfl (by omega) NS.out HM.out (by have := bsA_len W H c 0; have := HM.out; omega) ?_; intro A2 q2 w4 n4 _ _; have N4 := Lib.hid n4; clear n4)
        go_meet
        exact ⟨A2, _, q2, rfl, by rw [HP.out, List.length_append, ← HM.out]; rfl, by rw [HP.out]; exact N4.out⟩
      · have HP := Lib.hid (show bsA W H c 1 = bsA W H c 0 by rw [HA.out]; show _ ++ (if _ then _ else _) = _; rw [if_neg (by first | (rw [← HX.out]; exact hd) | (rw [← HY.out]; exact hd)), List.append_nil])
        have hdI : ¬ (0 : Int) < (y : Int) := by omega
        go_wp2_with fail
        go_meet
        exact ⟨_, _, _, rfl, by rw [HP.out]; exact HM.out, by rw [HP.out]; exact NS.out⟩
    case rest =>
      clear NS HM hb0 hb1
      obtain ⟨A, m, q, rfl, hm, ns⟩ := hcut
      have NS := Lib.hid ns; have HM := Lib.hid hm
      have hm4 : m ≤ 4 := by rw [hm]; exact Nat.le_trans (bsA_len W H c 1) (by omega)
      have hb0 := (B3.out.no ns.kp).c0; have hb1 := (B3.out.no ns.kp).c1
      simp only at hb0 hb1
      clear hm ns
      go_upto_if 29 with fail
      go_cut [5, 30, 31, 32, 33, 34] (fun v _ _ _ _ _ wx => ∃ A m q, v = .slice A m q ∧ m = (bsA W H c 2).length ∧ NewS IK 3 w3 wx v (ints (bsA W H c 2)))
      case first =>
        have HA := Lib.hid (bsA_succ W H c 1)
        by_cases hd : x + 1 < W
        · have HP := Lib.hid (show bsA W H c 2 = bsA W H c 1 ++ [c + 1] by rw [HA.out]; congr 1; show (if _ then _ else _) = _; rw [if_pos (by first | (rw [← HX.out]; exact hd) | (rw [← HY.out]; exact hd))])
          have hv : (0 : Int) ≤ ((c : Int) + 1) ∧ ((c : Int) + 1) ≤ 512 := by omega
          have hvw : IntKind.i64.wrap ((c : Int) + 1) = ((c : Int) + 1) := IntWalk.i64_in _ (by omega)
          have hdI : (x : Int) < (W : Int) - 1 := by omega
          go_wp2_with (at_builtin; refine wpl_snocZ (n := c + 1) rfl (.tmp 30) (.tmp 33) rfl rfl rfl rfl (by omega) NS.out HM.out (by have := bsA_len W H c 1; have := HM.out; omega) ?_; intro A2 q2 w4 n4 _ _; have N4 := Lib.hid n4; clear n4)
          go_meet
          exact ⟨A2, _, q2, rfl, by rw [HP.out, List.length_append, ← HM.out]; rfl, by rw [HP.out]; exact N4.out⟩
        · have HP := Lib.hid (show bsA W H c 2 = bsA W H c 1 by rw [HA.out]; show _ ++ (if _ then _ else _) = _; rw [if_neg (by first | (rw [← HX.out]; exact hd) | (rw [← HY.out]; exact hd)), List.append_nil])
          have hdI : ¬ (x : Int) < (W : Int) - 1 := by omega
          go_wp2_with fail
          go_meet
          exact ⟨_, _, _, rfl, by rw [HP.out]; exact HM.out, by rw [HP.out]; exact NS.out⟩
      case rest =>
        clear NS HM hb0 hb1
        obtain ⟨A, m, q, rfl, hm, ns⟩ := hcut
        have NS := Lib.hid ns; have HM := Lib.hid hm
        have hm4 : m ≤ 4 := by rw [hm]; exact Nat.le_trans (bsA_len W H c 2) (by omega)
        have hb0 := (B3.out.no ns.kp).c0; have hb1 := (B3.out.no ns.kp).c1
        simp only at hb0 hb1
        clear hm ns
        go_upto_if 39 with fail
        go_cut [5, 40, 41, 42, 43, 44, 45, 46] (fun v _ _ _ _ _ _ _ wx => ∃ A m q, v = .slice A m q ∧ m = (bsA W H c 3).length ∧ NewS IK 3 w3 wx v (ints (bsA W H c 3)))
        case first =>
          have HA := Lib.hid (bsA_succ W H c 2)
          by_cases hd : y + 1 < H
          · have HP := Lib.hid (show bsA W H c 3 = bsA W H c 2 ++ [c + W] by rw [HA.out]; congr 1; show (if _ then _ else _) = _; rw [if_pos (by first | (rw [← HX.out]; exact hd) | (rw [← HY.out]; exact hd))])
            have hv : (0 : Int) ≤ ((c : Int) + (W : Int)) ∧ ((c : Int) + (W : Int)) ≤ 512 := by omega
            have hvw : IntKind.i64.wrap ((c : Int) + (W : Int)) = ((c : Int) + (W : Int)) := IntWalk.i64_in _ (by omega)
            have hdI : (y : Int) < (H : Int) - 1 := by omega
            go_wp2_with (at_builtin; refine wpl_snocZ (n := c + W) rfl (.tmp 40) (.tmp 45) rfl rfl rfl rfl (by omega) NS.out HM.out (by have := bsA_len W H c 2; have := HM.out; omega) ?_; intro A2 q2 w4 n4 _ _; have N4 := Lib.hid n4; clear n4)
            go_meet
            exact ⟨A2, _, q2, rfl, by rw [HP.out, List.length_append, ← HM.out]; rfl, by rw [HP.out]; exact N4.out⟩
          · have HP := Lib.hid (show bsA W H c 3 = bsA W H c 2 by rw [HA.out]; show _ ++ (if _ then _ else _) = _; rw [if_neg (by first | (rw [← HX.out]; exact hd) | (rw [← HY.out]; exact hd)), List.append_nil])
            have hdI : ¬ (y : Int) < (H : Int) - 1 := by omega
            go_wp2_with fail
            go_meet
            exact ⟨_, _, _, rfl, by rw [HP.out]; exact HM.out, by rw [HP.out]; exact NS.out⟩
        case rest =>
          clear NS HM hb0 hb1
          obtain ⟨A, m, q, rfl, hm, ns⟩ := hcut
          have NS := Lib.hid ns; have HM := Lib.hid hm
          have hm4 : m ≤ 4 := by rw [hm]; exact Nat.le_trans (bsA_len W H c 3) (by omega)
          have hb0 := (B3.out.no ns.kp).c0; have hb1 := (B3.out.no ns.kp).c1
          simp only at hb0 hb1
          clear hm ns
          go_upto_if 48 with fail
          go_cut [5, 49, 50, 51, 52, 53] (fun v _ _ _ _ _ wx => ∃ A m q, v = .slice A m q ∧ m = (bsA W H c 4).length ∧ NewS IK 3 w3 wx v (ints (bsA W H c 4)))
          case first =>
            have HA := Lib.hid (bsA_succ W H c 3)
            by_cases hd : 0 < x
            · have HP := Lib.hid (show bsA W H c 4 = bsA W H c 3 ++ [c - 1] by rw [HA.out]; congr 1; show (if _ then _ else _) = _; rw [if_pos (by first | (rw [← HX.out]; exact hd) | (rw [← HY.out]; exact hd))])
              have hv : (0 : Int) ≤ ((c : Int) - 1) ∧ ((c : Int) - 1) ≤ 512 := by omega
              have hvw : IntKind.i64.wrap ((c : Int) - 1) = ((c : Int) - 1) := IntWalk.i64_in _ (by omega)
              have hdI : (0 : Int) < (x : Int) := by omega
              go_wp2_with (at_builtin; refine wpl_snocZ (n := c - 1) rfl (.tmp 49) (.tmp 52) rfl rfl rfl rfl (by omega) NS.out HM.out (by have := bsA_len W H c 3; have := HM.out; omega) ?_; intro A2 q2 w4 n4 _ _; have N4 := Lib.hid n4; clear n4)
              go_meet
              exact ⟨A2, _, q2, rfl, by rw [HP.out, List.length_append, ← HM.out]; rfl, by rw [HP.out]; exact N4.out⟩
            · have HP := Lib.hid (show bsA W H c 4 = bsA W H c 3 by rw [HA.out]; show _ ++ (if _ then _ else _) = _; rw [if_neg (by first | (rw [← HX.out]; exact hd) | (rw [← HY.out]; exact hd)), List.append_nil])
              have hdI : ¬ (0 : Int) < (x : Int) := by omega
              go_wp2_with fail
              go_meet
              exact ⟨_, _, _, rfl, by rw [HP.out]; exact HM.out, by rw [HP.out]; exact NS.out⟩
          case rest =>
            clear NS HM hb0 hb1
            obtain ⟨A, m, q, rfl, hm, ns⟩ := hcut
            have NS := Lib.hid ns; have HM := Lib.hid hm
            have hm4 : m ≤ 4 := by rw [hm]; exact Nat.le_trans (bsA_len W H c 4) (by omega)
            have hb0 := (B3.out.no ns.kp).c0; have hb1 := (B3.out.no ns.kp).c1
            simp only at hb0 hb1
            clear hm ns
            go_wp2_with fail
            go_ret
            exact ⟨_, rfl, by rw [← bsA_four]; exact NS.out.from_ B3.out.kp⟩
end Go.Proofs.YthchoknhkhfdnaaDoor

namespace Go.Proofs.YthchoknhkhfdnaaDoor
set_option linter.unusedVariables false
set_option linter.unusedSimpArgs false
open Go.RowKit

def offs (on : List Bool) : Nat := (on.filter fun x => !x).length
theorem offs_cons (y : Bool) (ys : List Bool) : offs (y :: ys) = (if y = true then 0 else 1) + offs ys := by
  unfold offs; cases y
  · simp; omega
  · simp
theorem offs_set : ∀ (on : List Bool) (i : Nat), on[i]? = some false → offs (on.set i true) + 1 = offs on := by
  intro on
  induction on with
  | nil => intro i h; simp at h
  | cons y ys ih =>
    intro i h
    rcases i with _ | i
    · simp at h; subst h; rw [List.set_cons_zero, offs_cons, offs_cons]; simp; omega
    · rw [List.getElem?_cons_succ] at h
      have := ih i h
      rw [List.set_cons_succ, offs_cons, offs_cons]; omega
structure RchI (W H : Nat) (s : ByteArray) (fr : Nat) (on : List Bool) : Prop where
  len : on.length = s.size
  at_ : on[fr]? = some true
  snd : ∀ i : Nat, on[i]? = some true → Conn W H s fr i
def RchC (W H : Nat) (s : ByteArray) (on : List Bool) (i : Nat) : Prop := ∀ a : Nat, a < i → on[a]? = some true → ∀ k ∈ besideP W H a, laneI s k → on[k]? = some true
def RchD (W H : Nat) (s : ByteArray) (on : List Bool) (i j : Nat) : Prop := ∀ k ∈ (besideP W H i).take j, laneI s k → on[k]? = some true
section
variable {W H fr i j b : Nat} {s : ByteArray} {on : List Bool}
theorem RchI.start (hf : fr < s.size) : RchI W H s fr ((List.replicate s.size false).set fr true) := by
  refine ⟨by simp, by rw [List.getElem?_set_self (by simpa using hf)], fun i hi => ?_⟩
  rw [List.getElem?_set] at hi
  split at hi
  · rename_i h; subst h; exact .refl
  · rw [List.getElem?_replicate] at hi; split at hi <;> simp at hi
theorem RchI.put (h : RchI W H s fr on) (hi : on[i]? = some true) (hb : (besideP W H i)[j]? = some b) (hl : laneI s b) (hn : on[b]? = some false) : RchI W H s fr (on.set b true) := by
  have hbl : b < on.length := (List.getElem?_eq_some_iff.1 hn).1
  refine ⟨by rw [List.length_set]; exact h.len, ?_, fun k hk => ?_⟩
  · rw [List.getElem?_set]
    split
    · rfl
    · exact h.at_
  · rw [List.getElem?_set] at hk
    split at hk
    · rename_i e; subst e; exact .step (h.snd i hi) (List.mem_of_getElem? hb) hl
    · exact h.snd k hk
theorem RchD.zero : RchD W H s on i 0 := fun k hk => by simp at hk
theorem RchD.step (h : RchD W H s on i j) (hb : (besideP W H i)[j]? = some b) (hl : laneI s b → on[b]? = some true) : RchD W H s on i (j + 1) := by
  intro k hk
  rw [List.take_add_one, hb] at hk
  rcases List.mem_append.1 hk with hk | hk
  · exact h k hk
  · simp at hk; subst hk; exact hl
theorem RchC.zero : RchC W H s on 0 := fun a ha => by omega
theorem RchC.off (h : RchC W H s on i) (hi : on[i]? = some false) : RchC W H s on (i + 1) := by
  intro a ha h2
  rcases Nat.lt_or_ge a i with h3 | h3
  · exact h a h3 h2
  · obtain rfl : a = i := by omega
    rw [hi] at h2; simp at h2
theorem RchC.onn (h : RchC W H s on i) (hd : RchD W H s on i (besideP W H i).length) : RchC W H s on (i + 1) := by
  intro a ha h2
  rcases Nat.lt_or_ge a i with h3 | h3
  · exact h a h3 h2
  · obtain rfl : a = i := by omega
    intro k hk; exact hd k (by rw [List.take_length]; exact hk)
theorem RchI.done (h : RchI W H s fr on) (hc : RchC W H s on s.size) (i : Nat) : laneI s i → (on[i]? = some true ↔ Conn W H s fr i) := fun _ =>
  ⟨h.snd i, fun hq => hq.closed (p := fun i => on[i]? = some true) h.at_ fun a k ha hk hl => hc a (by rw [← h.len]; exact (List.getElem?_eq_some_iff.1 ha).1) ha k hk hl⟩
end
end Go.Proofs.YthchoknhkhfdnaaDoor

namespace Go.Proofs.YthchoknhkhfdnaaDoor
set_option linter.unusedVariables false
set_option linter.unusedSimpArgs false
open Go.RowKit

structure RcW (f : Flr) (bf g : Nat) (w : World) (on : List Bool) (wx : World) : Prop where
  bx : BxW f bf w wx
  bl : Blk Value.bool 4 wx g on
  lt : bf < g ∧ w.heap.size ≤ g
section
variable {f : Flr} {bf g : Nat} {w wx w' : World} {on : List Bool}
theorem RcW.no (h : RcW f bf g w on wx) (hk : Kp No wx w') : RcW f bf g w on w' := ⟨h.bx.no hk, h.bl.kpNo hk, h.lt⟩
theorem RcW.set (h : RcW f bf g w on wx) (i : Nat) (b : Bool) : RcW f bf g w (on.set i b) (wx.setCell ⟨g, i, none⟩ (.bool b)) :=
  ⟨⟨blk_far h.bx.box (by have := h.lt; show bf ≠ g; omega) _, h.bx.kp.setCell (fun e => by have e : g < w.heap.size := e; have := h.lt; omega) _⟩, h.bl.set i b, h.lt⟩
end
def RchR (W H : Nat) (s : ByteArray) (fr : Nat) (w : World) (e : Ending) (w' : World) : Prop :=
  ∃ g on, e = .returned (.slice (some ⟨g, 0, none⟩) s.size s.size) ∧ Blk Value.bool 4 w' g on ∧ w.heap.size ≤ g ∧ Kp No w w' ∧ on.length = s.size ∧ ∀ i : Nat, laneI s i → (on[i]? = some true ↔ Conn W H s fr i)

set_option maxHeartbeats 2000000 in
set_option maxRecDepth 100000 in
theorem reached_any (W H : Nat) (s : ByteArray) (fr : Nat) (hW1 : 1 ≤ W) (hW : W ≤ 16) (hH1 : 1 ≤ H) (hH : H ≤ 16) (hs : s.size = W * H) (hfr : fr < s.size) (w : World) :
    Calls Tryd.prog 63 #[(Flr.mk W H s).val, .int .i64 (fr : Int)] w (RchR W H s fr w) := by
  have HBX := Lib.hid (BxW.new (Flr.mk W H s) w)
  unfold Flr.val
  have hs256 : s.size ≤ 256 := by rw [hs]; exact Nat.mul_le_mul hW hH
  have HS := Lib.hid hs
  obtain ⟨n, hn⟩ : ∃ n, n = s.size := ⟨_, rfl⟩
  have hnI : ((s.size : Nat) : Int) = (n : Int) := by omega
  have HN := Lib.hid hn
  have hn256 : n ≤ 256 := by omega
  have hmk := run_mkBo n (by omega)
  have hfn : (fr : Int) < (n : Int) := by omega
  have ST := Lib.hid (RchI.start (W := W) (H := H) hfr)
  clear hs hn hs256 hfr
  go_enter Tryd.func63, Tryd.ntmps63
  obtain ⟨bf, hbf⟩ : ∃ bf, bf = w.heap.size := ⟨_, rfl⟩
  obtain ⟨w1, hw1⟩ : ∃ w1, w1 = w.alloc (.cells #[.int .i64 (W : Int), .int .i64 (H : Int), .string s] 23) := ⟨_, rfl⟩
  obtain ⟨w2, hw2⟩ : ∃ w2, w2 = w1.alloc (.cells ((List.replicate n false).map Value.bool).toArray 4) := ⟨_, rfl⟩
  obtain ⟨g, hg⟩ : ∃ g, g = w1.heap.size := ⟨_, rfl⟩
  have R0 := Lib.hid (show RcW (Flr.mk W H s) bf g w (List.replicate n false) w2 by
    rw [hw2, hg, hbf]
    refine ⟨BxW.no (w := w1) (by rw [hw1]; exact HBX.out) ((Kp.refl _ _).alloc _), blk_new w1 _, ?_⟩
    rw [hw1]; simp)
  have hcf : w2.frozen? ⟨g, fr, none⟩ = false := R0.out.bl.free fr
  have hc0 : w2.cell? ⟨g, fr, none⟩ = some (.bool false) := R0.out.bl.get (x := false) (by rw [List.getElem?_replicate, if_pos (by omega)])
  have R1 := Lib.hid (R0.out.set fr true)
  go_upto_region 1 with fail
  go_cut [5, 10, 11, 12, 13] (fun v _ _ _ _ wx => v = .slice (some ⟨g, 0, none⟩) n n ∧ wx = w2)
  case first =>
    clear hcf hc0
    go_wp2_with fail
    go_meet
    subst hg hw1 hw2
    exact ⟨by simp, by simp⟩
  case rest =>
    rw [← hbf]
    obtain ⟨rfl, rfl⟩ := hcut
    clear hmk hw1 hw2 hg hbf
    go_wp2_with fail
    go_loopg [6] (2 * n + 1) (fun gg mv wx => ∃ (mb : Bool) (on : List Bool), 2 * offs on + (if mb then 1 else 0) ≤ gg ∧ mv = .bool mb ∧ RchI W H s fr on ∧ (mb = false → RchC W H s on n) ∧ RcW (Flr.mk W H s) bf g w on wx)
    case atStart =>
      refine ⟨true, (List.replicate n false).set fr true, ?_, rfl, by have := ST.out; rwa [← HN.out] at this, by simp, R1.out⟩
      have := List.length_filter_le (fun x => !x) ((List.replicate n false).set fr true)
      unfold offs; simp at this ⊢; omega
    case round =>
      obtain ⟨mb, on, hgk, rfl, ri, rc, rw_⟩ := hrel
      have RI := Lib.hid ri; have RC := Lib.hid rc; have RW := Lib.hid rw_
      clear ri rc rw_
      cases mb with
      | false =>
        have HD := Lib.hid (RI.out.done (by have := RC.out rfl; rwa [HN.out] at this))
        have HL := Lib.hid RI.out.len
        have hnE := HN.out
        have HE := Lib.hid hnE
        clear hnE
        go_wp2_with fail
        go_ret
        exact ⟨g, on, by rw [← HE.out]; rfl, RW.out.bl, RW.out.lt.2, RW.out.bx.kp, HL.out, HD.out⟩
      | true =>
        have hgk2 : 2 * offs on < gk := by simp at hgk; omega
        obtain ⟨G, rfl⟩ : ∃ G : Nat, G = gk := ⟨_, rfl⟩
        have HG := Lib.hid hgk2
        clear hgk hgk2
        go_wp2_with fail
        obtain ⟨wo, rfl⟩ : ∃ wo : World, wo = wr := ⟨_, rfl⟩
        go_loopg [6, 7] (n + 1) (fun g2 mv iv wx => ∃ (i : Nat) (mb : Bool) (on : List Bool), g2 = n + 1 - i ∧ iv = .int .i64 i ∧ i ≤ n ∧ mv = .bool mb ∧ 2 * offs on + (if mb then 1 else 0) < G ∧ RchI W H s fr on ∧ (mb = false → RchC W H s on i) ∧ RcW (Flr.mk W H s) bf g w on wx)
        case atStart => exact ⟨0, false, on, rfl, rfl, by omega, rfl, by have := HG.out; simp; omega, RI.out, fun _ => RchC.zero, RW.out⟩
        case round =>
          clear HG RI RC RW
          obtain ⟨i, mb, on, hg2, rfl, hi, rfl, hG, ri, rc, rw_⟩ := hrel
          have RI := Lib.hid ri; have RC := Lib.hid rc; have RW := Lib.hid rw_; have HG := Lib.hid hG
          clear ri rc rw_ hG
          by_cases hlt : i < n
          · have hltI : (i : Int) < (n : Int) := by omega
            have hwi : IntKind.i64.wrap ((i : Int) + 1) = (i : Int) + 1 := IntWalk.i64_in _ (by omega)
            obtain ⟨b, hb⟩ : ∃ b, on[i]? = some b := ⟨_, List.getElem?_eq_getElem (by rw [RI.out.len, ← HN.out]; exact hlt)⟩
            have hcb : wr.cell? ⟨g, i, none⟩ = some (.bool b) := RW.out.bl.get hb
            have HB := Lib.hid hb
            cases b with
            | false =>
              have RC2 := Lib.hid (fun h => (RC.out h).off HB.out)
              clear hb hlt
              go_wp2_with fail
              go_roundg (n + 1 - (i + 1))
              case measure => omega
              case rel => exact ⟨i + 1, mb, on, rfl, by go_num, by omega, rfl, HG.out, RI.out, RC2.out, RW.out⟩
            | true =>
              have hiW : i < W * H := by have := HS.out; have := HN.out; omega
              have HIW := Lib.hid hiW
              have hb0 : wr.cell? ⟨bf, 0, none⟩ = some (.int .i64 (W : Int)) := RW.out.bx.c0
              have hb1 : wr.cell? ⟨bf, 1, none⟩ = some (.int .i64 (H : Int)) := RW.out.bx.c1
              have hb2 : wr.cell? ⟨bf, 2, none⟩ = some (.string s) := RW.out.bx.c2
              clear hb hlt hiW
              go_wp2_with fail
              refine (qbeside_any W H i s hW1 hW hH1 hH HIW.out wr).mono ?_
              rintro e w3 ⟨vB, rfl, nb⟩
              obtain ⟨AB, qB, rfl⟩ := nb.own.rd.shape
              rw [ints_len] at nb ⊢
              obtain ⟨nB, hnB⟩ : ∃ nB, nB = (besideP W H i).length := ⟨_, rfl⟩
              have hB4 : nB ≤ 4 := by rw [hnB]; exact besideP_len W H i
              rw [← hnB] at nb ⊢
              have HNB := Lib.hid hnB
              have R3 := Lib.hid (RW.out.no nb.kp); have OB := Lib.hid nb.own
              have NG := Lib.hid (show ∀ g', (Value.slice AB nB qB).ownBlock = some g' → g' ≠ g by
                intro g' hg'
                have := nb.ge g' hg'; have := RW.out.bl.lt; omega)
              clear nb hnB hb0 hb1 hb2 hcb
              go_wp2_with fail
              obtain ⟨wc, rfl⟩ : ∃ wc : World, wc = wr := ⟨_, rfl⟩
              go_loopg [6, 9] (nB + 1) (fun g3 mv jv wx => ∃ (j : Nat) (mb : Bool) (on : List Bool), g3 = nB + 1 - j ∧ jv = .int .i64 j ∧ j ≤ nB ∧ mv = .bool mb ∧ 2 * offs on + (if mb then 1 else 0) < G ∧ RchI W H s fr on ∧ on[i]? = some true ∧ (mb = false → RchC W H s on i ∧ RchD W H s on i j) ∧ RcW (Flr.mk W H s) bf g w on wx ∧ Own IK 3 wx (.slice AB nB qB) (ints (besideP W H i)))
              case atStart => exact ⟨0, mb, on, rfl, rfl, by omega, rfl, HG.out, RI.out, HB.out, fun h => ⟨RC.out h, RchD.zero⟩, R3.out, OB.out⟩
              case round =>
                clear RI RC RW HG HB R3 OB
                obtain ⟨j, mb, on, hg3, rfl, hj, rfl, hG, ri, hoi, rc, rw_, ob⟩ := hrel
                have RI := Lib.hid ri; have RC := Lib.hid rc; have RW := Lib.hid rw_; have HG := Lib.hid hG; have HOI := Lib.hid hoi; have OB := Lib.hid ob
                clear ri rc rw_ hG hoi ob
                by_cases hlt : j < nB
                · have hltI : (j : Int) < (nB : Int) := by omega
                  have hwj : IntKind.i64.wrap ((j : Int) + 1) = (j : Int) + 1 := IntWalk.i64_in _ (by omega)
                  obtain ⟨x, hx⟩ : ∃ x, (besideP W H i)[j]? = some x := ⟨_, List.getElem?_eq_getElem (by rw [← HNB.out]; exact hlt)⟩
                  have hxs : x < s.size := by rw [HS.out]; exact beside_lt hW1 HIW.out (List.mem_of_getElem? hx)
                  have hxsI : (x : Int) < ((s.size : Nat) : Int) := by omega
                  have hxn : (x : Int) < (n : Int) := by have := HN.out; omega
                  rcases OB.out.b with ⟨hv, _⟩ | ⟨gB, capB, hv, _, _, _⟩
                  · simp only [Value.slice.injEq] at hv; omega
                  simp only [Value.slice.injEq] at hv
                  obtain ⟨rfl, hzz, rfl⟩ := hv
                  clear hzz
                  have hgg : gB ≠ g := NG.out gB rfl
                  have hcb : wr.cell? ⟨gB, j, none⟩ = some (.int .i64 (x : Int)) := by have := OB.out.rd.intAt (ints_get hx); simpa using this
                  have hb2 : wr.cell? ⟨bf, 2, none⟩ = some (.string s) := RW.out.bx.c2
                  have hbt := bt_at s x
                  obtain ⟨B, hB⟩ : ∃ B, B = bt s x := ⟨_, rfl⟩
                  rw [← hB] at hbt
                  obtain ⟨t, ht⟩ : ∃ t, t = (kindB B == 2) := ⟨_, rfl⟩
                  have QL := Lib.hid (fun w => qlane_any B t ht w)
                  have HX := Lib.hid hx
                  have HT := Lib.hid (show t = true ↔ laneI s x by
                    rw [ht, hB]; simp; exact ⟨fun h => ⟨hxs, h⟩, fun h => h.2⟩)
                  obtain ⟨c, hc⟩ : ∃ c, on[x]? = some c := ⟨_, List.getElem?_eq_getElem (by rw [RI.out.len]; exact hxs)⟩
                  have hcx : wr.cell? ⟨g, x, none⟩ = some (.bool c) := RW.out.bl.get hc
                  have hcf : wr.frozen? ⟨g, x, none⟩ = false := RW.out.bl.free x
                  have HC := Lib.hid hc
                  have HGG := Lib.hid hgg
                  clear hx hB hlt hxs ht hc hgg
                  cases t with
                  | false =>
                    have RC2 := Lib.hid (fun h => And.intro (RC.out h).1 ((RC.out h).2.step HX.out (fun hl => absurd (HT.out.2 hl) (by simp))))
                    clear hcx hcf
                    go_wp2_with fail
                    go_quiet ((go_at_call 62; exact Calls.quiet_of_same (QL.out _)))
                    go_wp2_with fail
                    go_roundg (nB + 1 - (j + 1))
                    case measure => omega
                    case rel => exact ⟨j + 1, mb, on, rfl, by go_num, by omega, rfl, HG.out, RI.out, HOI.out, RC2.out, RW.out.no ((Kp.refl _ _).drewN _), OB.out.drewN _⟩
                  | true =>
                    cases c with
                    | true =>
                      have RC2 := Lib.hid (fun h => And.intro (RC.out h).1 ((RC.out h).2.step HX.out (fun _ => HC.out)))
                      go_wp2_with fail
                      go_quiet ((go_at_call 62; exact Calls.quiet_of_same (QL.out _)))
                      go_wp2_with fail
                      go_roundg (nB + 1 - (j + 1))
                      case measure => omega
                      case rel => exact ⟨j + 1, mb, on, rfl, by go_num, by omega, rfl, HG.out, RI.out, HOI.out, RC2.out, RW.out.no ((Kp.refl _ _).drewN _), OB.out.drewN _⟩
                    | false =>
                      have RI2 := Lib.hid (RI.out.put HOI.out HX.out (HT.out.1 rfl) HC.out)
                      have HO := Lib.hid (offs_set on x HC.out)
                      have HOI2 := Lib.hid (show (on.set x true)[i]? = some true by
                        rw [List.getElem?_set]; split
                        · rename_i e; subst e; have := HC.out; rw [HOI.out] at this; simp at this
                        · exact HOI.out)
                      have R2 := Lib.hid (fun k => (RW.out.no ((Kp.refl _ wr).drewN k)).set x true)
                      have O2 := Lib.hid (fun k => (OB.out.drewN k).kp ((Kp.refl (fun b => b = g) (wr.drewN k)).setCell (p := ⟨g, x, none⟩) (fun _ => rfl) (.bool true)) (fun g' hg' e => NG.out g' hg' e))
                      go_wp2_with fail
                      go_quiet ((go_at_call 62; exact Calls.quiet_of_same (QL.out _)))
                      go_wp2_with fail
                      go_roundg (nB + 1 - (j + 1))
                      case measure => omega
                      case rel => exact ⟨j + 1, true, _, rfl, by go_num, by omega, rfl, by have := HG.out; have := HO.out; split at * <;> simp <;> omega, RI2.out, HOI2.out, fun h => by simp at h, R2.out _, O2.out _⟩
                · obtain rfl : j = nB := by omega
                  have hd0 : ¬ (j : Int) < (j : Int) := by omega
                  have RC2 := Lib.hid (fun h => (RC.out h).1.onn (by rw [← HNB.out]; exact (RC.out h).2))
                  clear hlt
                  go_wp2_with fail
                  go_roundg (n + 1 - (i + 1))
                  case measure => omega
                  case rel => exact ⟨i + 1, mb, on, rfl, by go_num, by omega, rfl, HG.out, RI.out, RC2.out, RW.out⟩
          · obtain rfl : i = n := by omega
            have hd0 : ¬ (i : Int) < (i : Int) := by omega
            clear hlt
            go_wp2_with fail
            go_roundg (2 * offs on + (if mb then 1 else 0))
            case measure => exact HG.out
            case rel => exact ⟨mb, on, Nat.le_refl _, rfl, RI.out, RC.out, RW.out⟩
end Go.Proofs.YthchoknhkhfdnaaDoor

namespace Go.Proofs.YthchoknhkhfdnaaDoor
set_option linter.unusedVariables false
set_option linter.unusedSimpArgs false
open Go.RowKit

def cntR (s : ByteArray) (k r : Nat) : Nat := ((List.range k).filter fun i => kdS s i == 3 && bt s i == 48 + r).length
theorem cntR_succ (s : ByteArray) (k r : Nat) : cntR s (k + 1) r = cntR s k r + if kdS s k = 3 ∧ bt s k = 48 + r then 1 else 0 := by
  unfold cntR; rw [List.range_succ, List.filter_append, List.length_append]
  congr 1
  by_cases h : kdS s k = 3 ∧ bt s k = 48 + r
  · rw [if_pos h]; simp [h.1, h.2]
  · rw [if_neg h]; simp; intro h1 h2; exact h ⟨h1, h2⟩
theorem sum_set : ∀ (a : List Nat) (r x : Nat), a[r]? = some x → (a.set r (x + 1)).sum = a.sum + 1 := by
  intro a
  induction a with
  | nil => intro r x h; simp at h
  | cons y ys ih =>
    intro r x h
    rcases r with _ | r
    · simp at h; subst h; simp; omega
    · rw [List.getElem?_cons_succ] at h
      rw [List.set_cons_succ, List.sum_cons, List.sum_cons, ih r x h]; omega
theorem sum_ones : ∀ (a : List Nat) (d : Nat), d ≤ a.length → (∀ r : Nat, r < d → a[r]? = some 1) → a.sum = d → ∀ r x : Nat, d ≤ r → a[r]? = some x → x = 0 := by
  intro a
  induction a with
  | nil => intro d _ _ _ r x _ h; simp at h
  | cons y ys ih =>
    intro d hd h1 hs r x hr hx
    rw [List.sum_cons] at hs
    rcases d with _ | d
    · rcases r with _ | r
      · simp at hx; omega
      · rw [List.getElem?_cons_succ] at hx
        exact ih 0 (by omega) (fun r hr => by omega) (by omega) r x (by omega) hx
    · have hy := h1 0 (by omega)
      simp at hy; subst hy
      rcases r with _ | r
      · omega
      · rw [List.getElem?_cons_succ] at hx
        exact ih d (by simp at hd; omega) (fun r hr => by have := h1 (r + 1) (by omega); rwa [List.getElem?_cons_succ] at this) (by omega) r x (by omega) hx
structure MnI (s : ByteArray) (k : Nat) (a : List Nat) (d : Nat) : Prop where
  len : a.length = 8
  at_ : ∀ r x : Nat, a[r]? = some x → x = cntR s k r
  sum : d = a.sum
section
variable {s : ByteArray} {k d : Nat} {a : List Nat}
theorem MnI.start (s : ByteArray) : MnI s 0 (List.replicate 8 0) 0 := ⟨rfl, fun r x h => by
    rw [List.getElem?_replicate] at h
    split at h
    · simp at h; rw [← h]; rfl
    · simp at h, rfl⟩
theorem MnI.skip (h : MnI s k a d) (hk : kdS s k ≠ 3) : MnI s (k + 1) a d := ⟨h.len, fun r x e => by rw [cntR_succ, if_neg (fun h => hk h.1)]; exact h.at_ r x e, h.sum⟩
theorem MnI.take (h : MnI s k a d) {r x : Nat} (hk : kdS s k = 3) (hr : bt s k = 48 + r) (h0 : a[r]? = some x) : MnI s (k + 1) (a.set r (x + 1)) (d + 1) := by
  have hrl : r < a.length := (List.getElem?_eq_some_iff.1 h0).1
  refine ⟨by rw [List.length_set]; exact h.len, fun r' y e => ?_, by rw [sum_set a r x h0, ← h.sum]⟩
  rw [cntR_succ]
  by_cases hrr : r = r'
  · subst hrr
    rw [List.getElem?_set_self hrl] at e
    simp at e; subst e
    rw [if_pos ⟨hk, hr⟩, ← h.at_ r x h0]
  · rw [List.getElem?_set_ne hrr] at e
    rw [if_neg (by omega)]; exact h.at_ r' y e
theorem cnt_one {s : ByteArray} {n r i j : Nat} (h : cntR s n r = 1) (hi : i < n ∧ kdS s i = 3 ∧ bt s i = 48 + r) (hj : j < n ∧ kdS s j = 3 ∧ bt s j = 48 + r) : i = j := by
  unfold cntR at h
  obtain ⟨y, hy⟩ := List.length_eq_one_iff.1 h
  have h1 : i ∈ (List.range n).filter fun i => kdS s i == 3 && bt s i == 48 + r := List.mem_filter.2 ⟨List.mem_range.2 hi.1, by simp [hi.2.1, hi.2.2]⟩
  have h2 : j ∈ (List.range n).filter fun i => kdS s i == 3 && bt s i == 48 + r := List.mem_filter.2 ⟨List.mem_range.2 hj.1, by simp [hj.2.1, hj.2.2]⟩
  rw [hy] at h1 h2
  simp at h1 h2
  rw [h1, h2]
theorem cnt_pos {s : ByteArray} {n r : Nat} (h : cntR s n r ≠ 0) : ∃ i, i < n ∧ kdS s i = 3 ∧ bt s i = 48 + r := by
  unfold cntR at h
  obtain ⟨y, hy⟩ := List.exists_mem_of_length_pos (Nat.pos_of_ne_zero h)
  obtain ⟨h1, h2⟩ := List.mem_filter.1 hy
  simp at h1 h2
  exact ⟨y, h1, h2.1, h2.2⟩
theorem cnt_ne {s : ByteArray} {n r i : Nat} (hi : i < n ∧ kdS s i = 3 ∧ bt s i = 48 + r) : cntR s n r ≠ 0 := by
  intro h
  unfold cntR at h
  have h1 : i ∈ (List.range n).filter fun i => kdS s i == 3 && bt s i == 48 + r := List.mem_filter.2 ⟨List.mem_range.2 hi.1, by simp [hi.2.1, hi.2.2]⟩
  rw [List.eq_nil_of_length_eq_zero h] at h1
  simp at h1
theorem dockAt_some {s : ByteArray} {r i : Nat} (h : dockAt s r = some i) : i < s.size ∧ kdS s i = 3 ∧ bt s i = 48 + r := by
  unfold dockAt at h
  have h1 := List.find?_some h
  have h2 := List.mem_of_find?_eq_some h
  simp at h1 h2
  exact ⟨h2, h1.1, h1.2⟩
theorem dockAt_ex {s : ByteArray} {r i : Nat} (hi : i < s.size ∧ kdS s i = 3 ∧ bt s i = 48 + r) : ∃ x, dockAt s r = some x := by
  cases h : dockAt s r with
  | some x => exact ⟨x, rfl⟩
  | none =>
    unfold dockAt at h
    rw [List.find?_eq_none] at h
    have := h i (by simpa using hi.1)
    simp [hi.2.1, hi.2.2] at this
theorem cntR_len (s : ByteArray) (k r : Nat) (h : ∀ i, i < k → ¬ (kdS s i = 3 ∧ bt s i = 48 + r)) : cntR s k r = 0 := by
  apply Classical.byContradiction
  intro hc
  obtain ⟨i, h1, h2, h3⟩ := cnt_pos hc
  exact h i h1 ⟨h2, h3⟩
theorem MnI.cnt (h : MnI s k a d) : d = (docksP s k).length ∨ True := .inr trivial
theorem MnI.iff (h : MnI s s.size a d) : (∃ ds, DocksL s ds) ↔ 1 ≤ d ∧ d ≤ 8 ∧ ∀ r : Nat, r < d → a[r]? = some 1 := by
  constructor
  · rintro ⟨ds, hd⟩
    have hl := hd.len
    have hne : 1 ≤ ds.length := by rcases hh : ds with _ | _; exact absurd hh hd.ne; simp
    have hcnt : ∀ r x : Nat, a[r]? = some x → x = if r < ds.length then 1 else 0 := by
      intro r x hx
      rw [h.at_ r x hx]
      split
      · rename_i hr
        obtain ⟨i1, i2, i3⟩ := hd.at_ r _ (List.getElem?_eq_getElem hr)
        have hne := cnt_ne ⟨i1, i2, i3⟩
        rcases Nat.lt_or_ge 1 (cntR s s.size r) with h2 | h2
        · exfalso
          unfold cntR at h2
          have hnd : ((List.range s.size).filter fun i => kdS s i == 3 && bt s i == 48 + r).Nodup := List.Nodup.sublist List.filter_sublist List.nodup_range
          have hall : ∀ y ∈ (List.range s.size).filter fun i => kdS s i == 3 && bt s i == 48 + r, y = ds[r] := by
            intro y hy
            obtain ⟨h3, h4⟩ := List.mem_filter.1 hy
            simp at h3 h4
            have := hd.all y h3 h4.1
            rw [h4.2, Nat.add_sub_cancel_left, List.getElem?_eq_getElem hr] at this
            simpa using this.symm
          generalize (List.range s.size).filter (fun i => kdS s i == 3 && bt s i == 48 + r) = L at h2 hnd hall
          rcases L with _ | ⟨p, _ | ⟨q, L⟩⟩
          · simp at h2
          · simp at h2
          · have e1 := hall p (by simp)
            have e2 := hall q (by simp)
            rw [List.nodup_cons] at hnd
            exact hnd.1 (by simp [e1, e2])
        · omega
      · rename_i hr
        apply Classical.byContradiction
        intro hc
        obtain ⟨i, h1, h2, h3⟩ := cnt_pos hc
        have := hd.all i h1 h2
        rw [h3, Nat.add_sub_cancel_left] at this
        exact hr (List.getElem?_eq_some_iff.1 this).1
    have ha : a = List.replicate ds.length 1 ++ List.replicate (8 - ds.length) 0 := by
      apply List.ext_getElem?
      intro r
      rcases Nat.lt_or_ge r 8 with h8 | h8
      · have hra : r < a.length := by rw [h.len]; exact h8
        rw [List.getElem?_eq_getElem hra, hcnt r _ (List.getElem?_eq_getElem hra)]
        split
        · rw [List.getElem?_append_left (by simpa), List.getElem?_replicate, if_pos (by assumption)]
        · rw [List.getElem?_append_right (by simpa using by omega), List.getElem?_replicate, if_pos (by simp; omega)]
      · rw [List.getElem?_eq_none (by rw [h.len]; exact h8), List.getElem?_eq_none (by simp; omega)]
    have hd2 : d = ds.length := by rw [h.sum, ha]; simp
    refine ⟨by omega, by omega, fun r hr => ?_⟩
    rw [ha, List.getElem?_append_left (by simp; omega), List.getElem?_replicate, if_pos (by omega)]
  · rintro ⟨h1, h8, hall⟩
    have h0 := sum_ones a d (by rw [h.len]; exact h8) hall h.sum.symm
    have hone : ∀ r, r < d → cntR s s.size r = 1 := fun r hr => (h.at_ r 1 (hall r hr)).symm
    refine ⟨(List.range d).map fun r => (dockAt s r).getD 0, fun e => ?_, fun r i e => ?_, fun i hi h3 => ?_⟩
    · have : ((List.range d).map fun r => (dockAt s r).getD 0).length = d := by simp
      rw [e] at this; simp at this; omega
    · rw [List.getElem?_map] at e
      rcases Nat.lt_or_ge r d with hr | hr
      · rw [List.getElem?_range hr] at e
        simp at e
        obtain ⟨x, hx⟩ := cnt_pos (s := s) (n := s.size) (r := r) (by rw [hone r hr]; decide)
        obtain ⟨y, hy⟩ := dockAt_ex hx
        rw [hy] at e
        simp at e; subst e
        exact dockAt_some hy
      · rw [List.getElem?_eq_none (by simpa using hr)] at e
        simp at e
    · have hd := kd_dock h3
      have hb : bt s i = 48 + (bt s i - 48) := by unfold kdS at h3; omega
      have hr : bt s i - 48 < d := by
        rcases Nat.lt_or_ge (bt s i - 48) d with hr | hr
        · exact hr
        · exfalso
          have hra : bt s i - 48 < a.length := by rw [h.len]; omega
          have e := h0 _ _ hr (List.getElem?_eq_getElem hra)
          have e2 := h.at_ _ _ (List.getElem?_eq_getElem hra)
          exact cnt_ne ⟨hi, h3, hb⟩ (by rw [← e2, e])
      rw [List.getElem?_map, List.getElem?_range hr]
      obtain ⟨y, hy⟩ := dockAt_ex ⟨hi, h3, hb⟩
      simp only [Option.map_some, hy, Option.getD_some, Option.some.injEq]
      exact cnt_one (hone _ hr) (dockAt_some hy) ⟨hi, h3, hb⟩
end
end Go.Proofs.YthchoknhkhfdnaaDoor

namespace Go.Proofs.YthchoknhkhfdnaaDoor
set_option linter.unusedVariables false
set_option linter.unusedSimpArgs false
open Go.RowKit

theorem qright_dims (f : Flr) (w : World) (h : f.W < 1 ∨ 16 < f.W ∨ f.H < 1 ∨ 16 < f.H ∨ ((f.s.size : Int) ≠ f.W * f.H)) (hsz : f.s.size ≤ 9223372036854775807) :
    Calls Tryd.prog 44 #[f.val] w (RightR f w) := by
  have hR : rightB f = false := rightB_f fun r => by
    rcases h with h | h | h | h | h
    · exact absurd r.w1 (by omega)
    · exact absurd r.w2 (by omega)
    · exact absurd r.h1 (by omega)
    · exact absurd r.h2 (by omega)
    · exact h r.len
  have HR := Lib.hid hR
  unfold Flr.val
  obtain ⟨X, Y, s⟩ := f
  simp only at h hsz
  clear hR
  have K0 := Lib.hid ((Kp.refl No w).alloc (.cells #[.int .i64 X, .int .i64 Y, .string s] 23))
  by_cases h1 : X < 1
  · clear h
    go_enter Tryd.func44, Tryd.ntmps44
    go_wp2
    go_ret
    exact ⟨by rw [HR.out]; rfl, K0.out⟩
  by_cases h2 : 16 < X
  · clear h
    go_enter Tryd.func44, Tryd.ntmps44
    go_wp2
    go_ret
    exact ⟨by rw [HR.out]; rfl, K0.out⟩
  by_cases h3 : Y < 1
  · clear h
    go_enter Tryd.func44, Tryd.ntmps44
    go_wp2
    go_ret
    exact ⟨by rw [HR.out]; rfl, K0.out⟩
  by_cases h4 : 16 < Y
  · clear h
    go_enter Tryd.func44, Tryd.ntmps44
    go_wp2
    go_ret
    exact ⟨by rw [HR.out]; rfl, K0.out⟩
  · have h5 : (s.size : Int) ≠ X * Y := by rcases h with h | h | h | h | h <;> first | omega | exact h
    obtain ⟨P, hP⟩ : ∃ P, P = X * Y := ⟨_, rfl⟩
    have hP1 : 0 ≤ P := by rw [hP]; exact Int.mul_nonneg (by omega) (by omega)
    have hP2 : P ≤ 256 := by
      rw [hP]; exact Int.le_trans (Int.mul_le_mul_of_nonneg_right (show X ≤ 16 by omega) (by omega)) (by omega)
    have hw : IntKind.i64.wrap P = P := IntWalk.i64_in _ (by omega)
    rw [← hP] at h5
    obtain ⟨n, hn⟩ : ∃ n, n = s.size := ⟨_, rfl⟩
    have hnI : ((s.size : Nat) : Int) = (n : Int) := by omega
    rw [hnI] at h5
    have hb : ((n : Int) != P) = true := by simpa using h5
    have hP' := hP.symm
    clear h hP h5 hn hsz
    go_enter Tryd.func44, Tryd.ntmps44
    go_wp2
    go_ret
    exact ⟨by rw [HR.out]; rfl, K0.out⟩

theorem orTC {t c : Bool} (h : ¬ (t = true ∧ c = false)) : t = false ∨ (t = true ∧ c = true) := by revert h; cases t <;> cases c <;> simp
def FsI (s : ByteArray) (k : Nat) (x : Int) : Prop := (x = -1 ∧ ∀ i, i < k → kdS s i ≠ 2) ∨ ∃ l : Nat, x = l ∧ l < k ∧ kdS s l = 2
theorem FsI.skip {s : ByteArray} {k : Nat} {x : Int} (h : FsI s k x) (hk : kdS s k ≠ 2) : FsI s (k + 1) x := by
  rcases h with ⟨h1, h2⟩ | ⟨l, h1, h2, h3⟩
  · refine .inl ⟨h1, fun i hi => ?_⟩
    rcases Nat.lt_or_ge i k with h | h
    · exact h2 i h
    · obtain rfl : i = k := by omega
      exact hk
  · exact .inr ⟨l, h1, by omega, h3⟩
theorem FsI.keep {s : ByteArray} {k : Nat} {x : Int} (h : FsI s k x) (hx : 0 ≤ x) : FsI s (k + 1) x := by
  rcases h with ⟨h1, h2⟩ | ⟨l, h1, h2, h3⟩
  · omega
  · exact .inr ⟨l, h1, by omega, h3⟩
set_option maxHeartbeats 2000000 in
set_option maxRecDepth 100000 in
theorem qright_in (W H : Nat) (s : ByteArray) (hW1 : 1 ≤ W) (hW : W ≤ 16) (hH1 : 1 ≤ H) (hH : H ≤ 16) (hs : s.size = W * H) (w : World) :
    Calls Tryd.prog 44 #[(Flr.mk W H s).val] w (RightR (Flr.mk W H s) w) := by
  unfold RightR
  obtain ⟨R, hR⟩ : ∃ R, R = rightB (Flr.mk W H s) := ⟨_, rfl⟩
  rw [← hR]
  have HR := Lib.hid hR
  clear hR
  unfold Flr.val
  have hs256 : s.size ≤ 256 := by rw [hs]; exact Nat.mul_le_mul hW hH
  have HS := Lib.hid hs
  obtain ⟨n, hn⟩ : ∃ n, n = s.size := ⟨_, rfl⟩
  have hnI : ((s.size : Nat) : Int) = (n : Int) := by omega
  have hWH : (W : Int) * (H : Int) = (n : Int) := by rw [hn, hs]; simp
  have HN := Lib.hid hn
  have hn256 : n ≤ 256 := by omega
  have a1 : ¬ (W : Int) < 1 := by omega
  have a2 : ¬ (16 : Int) < (W : Int) := by omega
  have a3 : ¬ (H : Int) < 1 := by omega
  have a4 : ¬ (16 : Int) < (H : Int) := by omega
  clear hs hn hs256
  go_enter Tryd.func44, Tryd.ntmps44
  go_wp2
  obtain ⟨bf, hbf⟩ : ∃ bf, bf = w.heap.size := ⟨_, rfl⟩
  obtain ⟨ba, hba⟩ : ∃ ba, ba = w.heap.size + 1 := ⟨_, rfl⟩
  obtain ⟨w0, hw0⟩ : ∃ w0, w0 = (w.alloc (.cells #[.int .i64 (W : Int), .int .i64 (H : Int), .string s] 23)).alloc (.cells #[.int .i64 0, .int .i64 0, .int .i64 0, .int .i64 0, .int .i64 0, .int .i64 0, .int .i64 0, .int .i64 0] 104) := ⟨_, rfl⟩
  have D0 : Hid (DkW (Flr.mk W H s) bf ba (List.replicate 8 0) w w0) := Lib.hid (by
    rw [hw0, hbf, hba]
    refine ⟨blk_alloc (blk_new w _) _, ?_, ((Kp.refl _ _).alloc _).alloc _, by omega, by omega, by omega⟩
    have := blk_new (w.alloc (.cells #[.int .i64 (W : Int), .int .i64 (H : Int), .string s] 23)) (.cells #[.int .i64 0, .int .i64 0, .int .i64 0, .int .i64 0, .int .i64 0, .int .i64 0, .int .i64 0, .int .i64 0] 104)
    show (_ : World).heap[_]? = some (Obj.cells #[.int .i64 0, .int .i64 0, .int .i64 0, .int .i64 0, .int .i64 0, .int .i64 0, .int .i64 0, .int .i64 0] 104 (0, 0))
    simpa using this)
  rw [← hba, ← hbf, ← hw0]
  clear hbf hba hw0 a1 a2 a3 a4 hWH
  go_loopg [4, 5, 6] (n + 1) (fun g2 dv fv kk wr => ∃ (k d : Nat) (fI : Int) (a : List Nat), g2 = n + 1 - k ∧ kk = .int .i64 k ∧ k ≤ n ∧ dv = .int .i64 d ∧ d ≤ k ∧ fv = .int .i64 fI ∧ FsI s k fI ∧ (∀ i, i < k → kdS s i ≠ 0) ∧ DkW (Flr.mk W H s) bf ba a w wr ∧ MnI s k a d)
  case atStart => exact ⟨0, 0, -1, _, rfl, rfl, by omega, rfl, by omega, rfl, .inl ⟨rfl, fun i hi => by omega⟩, fun i hi => by omega, D0.out, MnI.start _⟩
  case round =>
    obtain ⟨k, d, fI, a, hgk, rfl, hk, rfl, hdk, rfl, hfs, hz, dw, mi⟩ := hrel
    have HZ := Lib.hid hz; have DW := Lib.hid dw; have MI := Lib.hid mi; have FS := Lib.hid hfs
    have hb2 : wr.cell? ⟨bf, 2, none⟩ = some (.string s) := blk_cell DW.out.box 2
    clear hz dw mi hfs
    by_cases hlt : k < n
    · have hltI : (k : Int) < (n : Int) := by omega
      have hwk : IntKind.i64.wrap ((k : Int) + 1) = (k : Int) + 1 := IntWalk.i64_in _ (by omega)
      have hks : k < s.size := by have := HN.out; omega
      have hbt := bt_at s k
      have hbl := bt_lt s k
      obtain ⟨B, hB⟩ : ∃ B, B = bt s k := ⟨_, rfl⟩
      rw [← hB] at hbt hbl
      have hKB : kdS s k = kindB B := by rw [hB]; rfl
      obtain ⟨K, hK⟩ : ∃ K, K = kindB B := ⟨_, rfl⟩
      have hk3 := kindB_le B
      rw [← hK] at hKB hk3
      have HK := Lib.hid hKB
      have HB := Lib.hid hB
      clear hKB hB
      have hZ2 : K ≠ 0 → ∀ i, i < k + 1 → kdS s i ≠ 0 := fun h0 => by
        intro i hi
        rcases Nat.lt_or_ge i k with h | h
        · exact HZ.out i h
        · obtain rfl : i = k := by omega
          rw [HK.out]; exact h0
      have HZ2 := Lib.hid hZ2
      clear hZ2
      obtain rfl | rfl | rfl | rfl : K = 0 ∨ K = 1 ∨ K = 2 ∨ K = 3 := by omega
      · have QD := Lib.hid (fun w => qdock_any B false (by rw [← hK]; rfl) w)
        have QL := Lib.hid (fun w => qlane_any B false (by rw [← hK]; rfl) w)
        have h35 : ((B : Int) != 35) = true := by
          simp; intro e
          have e : B = 35 := by omega
          rw [e] at hK; simp [kindB] at hK
        have HNO := Lib.hid (show R = false by rw [HR.out]; exact rightB_f fun r => r.kinds k hks HK.out)
        clear hK hlt hks
        go_wp2_with (first | (go_at_call 61; refine (QD.out _).mono ?_; rintro e wz ⟨rfl, rfl⟩) | (go_at_call 62; refine (QL.out _).mono ?_; rintro e wz ⟨rfl, rfl⟩))
        go_ret
        exact ⟨by rw [HNO.out]; rfl, DW.out.kp⟩
      · have QD := Lib.hid (fun w => qdock_any B false (by rw [← hK]; rfl) w)
        have QL := Lib.hid (fun w => qlane_any B false (by rw [← hK]; rfl) w)
        have h35 : ((B : Int) != 35) = false := by
          have := kd_wall hK.symm
          simp [this]
        have M2 := Lib.hid (MI.out.skip (by rw [HK.out]; decide))
        have F2 := Lib.hid (FS.out.skip (by rw [HK.out]; decide))
        clear hK hlt hks
        go_wp2_with (first | (go_at_call 61; refine (QD.out _).mono ?_; rintro e wz ⟨rfl, rfl⟩) | (go_at_call 62; refine (QL.out _).mono ?_; rintro e wz ⟨rfl, rfl⟩))
        go_roundg (n + 1 - (k + 1))
        case measure => omega
        case rel => exact ⟨k + 1, d, fI, a, rfl, by go_num, by omega, rfl, by omega, rfl, F2.out, HZ2.out (by decide), DW.out, M2.out⟩
      · have QD := Lib.hid (fun w => qdock_any B false (by rw [← hK]; rfl) w)
        have QL := Lib.hid (fun w => qlane_any B true (by rw [← hK]; rfl) w)
        have M2 := Lib.hid (MI.out.skip (by rw [HK.out]; decide))
        clear hK hlt hks
        by_cases hf : fI < 0
        · have F2 := Lib.hid (show FsI s (k + 1) (k : Int) from .inr ⟨k, rfl, by omega, HK.out⟩)
          go_wp2_with (first | (go_at_call 61; refine (QD.out _).mono ?_; rintro e wz ⟨rfl, rfl⟩) | (go_at_call 62; refine (QL.out _).mono ?_; rintro e wz ⟨rfl, rfl⟩))
          go_roundg (n + 1 - (k + 1))
          case measure => omega
          case rel => exact ⟨k + 1, d, _, a, rfl, by go_num, by omega, rfl, by omega, rfl, F2.out, HZ2.out (by decide), DW.out, M2.out⟩
        · have F2 := Lib.hid (FS.out.keep (by omega))
          go_wp2_with (first | (go_at_call 61; refine (QD.out _).mono ?_; rintro e wz ⟨rfl, rfl⟩) | (go_at_call 62; refine (QL.out _).mono ?_; rintro e wz ⟨rfl, rfl⟩))
          go_roundg (n + 1 - (k + 1))
          case measure => omega
          case rel => exact ⟨k + 1, d, fI, a, rfl, by go_num, by omega, rfl, by omega, rfl, F2.out, HZ2.out (by decide), DW.out, M2.out⟩
      · have QD := Lib.hid (fun w => qdock_any B true (by rw [← hK]; rfl) w)
        have QL := Lib.hid (fun w => qlane_any B false (by rw [← hK]; rfl) w)
        have hdk := kd_dock hK.symm
        obtain ⟨r, hr⟩ : ∃ r, B = 48 + r := ⟨B - 48, by omega⟩
        have hsub : IntKind.u8.wrap ((B : Int) - 48) = (r : Int) := by rw [IntWalk.u8_in _ (by omega)]; omega
        have hr8 : (r : Int) < 8 := by omega
        have hra : r < a.length := by rw [MI.out.len]; omega
        obtain ⟨x, hx⟩ : ∃ x, a[r]? = some x := ⟨_, List.getElem?_eq_getElem hra⟩
        have hcx : wr.cell? ⟨ba, r, none⟩ = some (.int .i64 (x : Int)) := (blk_cell DW.out.arr r).trans (arr8_get hx)
        have hcf : wr.frozen? ⟨ba, r, none⟩ = false := blk_free DW.out.arr r
        have D2 := Lib.hid (DW.out.set r (x + 1))
        have M2 := Lib.hid (MI.out.take HK.out (by rw [← HB.out, hr]) hx)
        have F2 := Lib.hid (FS.out.skip (by rw [HK.out]; decide))
        have hx256 : x ≤ 256 := by
          have := MI.out.at_ r x hx
          have h2 : cntR s k r ≤ k := by unfold cntR; exact Nat.le_trans (List.length_filter_le _ _) (by simp)
          omega
        have hwx : IntKind.i64.wrap ((x : Int) + 1) = (x : Int) + 1 := IntWalk.i64_in _ (by omega)
        have hwd : IntKind.i64.wrap ((d : Int) + 1) = (d : Int) + 1 := IntWalk.i64_in _ (by omega)
        have hcast : ((x + 1 : Nat) : Int) = (x : Int) + 1 := by omega
        rw [hcast] at D2
        clear hK hlt hks hx hra hr hdk hcast
        go_wp2_with (first | (go_at_call 61; refine (QD.out _).mono ?_; rintro e wz ⟨rfl, rfl⟩) | (go_at_call 62; refine (QL.out _).mono ?_; rintro e wz ⟨rfl, rfl⟩))
        go_roundg (n + 1 - (k + 1))
        case measure => omega
        case rel => exact ⟨k + 1, d + 1, fI, _, rfl, by go_num, by omega, by go_num, by omega, rfl, F2.out, HZ2.out (by decide), D2.out, M2.out⟩
    · obtain rfl : k = n := by omega
      have hd0 : ¬ (k : Int) < (k : Int) := by omega
      have MS := Lib.hid (show MnI s s.size a d by rw [← HN.out]; exact MI.out)
      have KP := Lib.hid DW.out.kp
      clear hlt MI
      by_cases hbad : d < 1 ∨ 8 < d ∨ fI < 0
      · have HNO := Lib.hid (show R = false by
          rw [HR.out]
          refine rightB_f fun r => ?_
          rcases hbad with h | h | h
          · have := (MS.out.iff.1 r.docks).1; omega
          · have := (MS.out.iff.1 r.docks).2.1; omega
          · rcases FS.out with ⟨_, h2⟩ | ⟨l, h2, _⟩
            · obtain ⟨l, hl⟩ := r.join.1
              have hl1 : l < s.size := hl.1
              exact h2 l (by have := HN.out; omega) hl.2
            · omega)
        by_cases h1 : d < 1
        · have h1I : (d : Int) < 1 := by omega
          clear hbad h1
          go_wp2_with fail
          go_ret
          exact ⟨by rw [HNO.out]; rfl, KP.out⟩
        by_cases h2 : 8 < d
        · have h1I : ¬ (d : Int) < 1 := by omega
          have h2I : (8 : Int) < (d : Int) := by omega
          clear hbad h1 h2
          go_wp2_with fail
          go_ret
          exact ⟨by rw [HNO.out]; rfl, KP.out⟩
        · have h1I : ¬ (d : Int) < 1 := by omega
          have h2I : ¬ (8 : Int) < (d : Int) := by omega
          have h3I : fI < 0 := by omega
          clear hbad h1 h2
          go_wp2_with fail
          go_ret
          exact ⟨by rw [HNO.out]; rfl, KP.out⟩
      · have h1I : ¬ (d : Int) < 1 := by omega
        have h2I : ¬ (8 : Int) < (d : Int) := by omega
        have h3I : ¬ fI < 0 := by omega
        have hd8 : d ≤ 8 := by omega
        obtain ⟨l, rfl, hlk, hl2⟩ : ∃ l : Nat, fI = l ∧ l < k ∧ kdS s l = 2 := by
          rcases FS.out with ⟨h, _⟩ | h
          · omega
          · exact h
        have hls : l < s.size := by have := HN.out; omega
        have HL : Hid (laneI s l) := Lib.hid ⟨hls, hl2⟩
        have HLS := Lib.hid hls
        have HBD := Lib.hid (show 1 ≤ d ∧ d ≤ 8 by omega)
        clear hbad hlk hl2 FS hls
        go_wp2_with fail
        obtain ⟨wo, rfl⟩ : ∃ wo : World, wo = wr := ⟨_, rfl⟩
        go_loopg [8] (d + 1) (fun g2 jv wx => ∃ j : Nat, g2 = d + 1 - j ∧ jv = .int .i64 j ∧ j ≤ d ∧ (∀ r : Nat, r < j → a[r]? = some 1) ∧ DkW (Flr.mk W H s) bf ba a w wx)
        case atStart => exact ⟨0, rfl, rfl, by omega, fun r hr => by omega, DW.out⟩
        case round =>
          clear DW hb2
          obtain ⟨j, hg2, rfl, hj, ha1, dw⟩ := hrel
          have HA := Lib.hid ha1; have DW := Lib.hid dw
          clear ha1 dw
          by_cases hlt : j < d
          · have hltI : (j : Int) < (d : Int) := by omega
            have hwj : IntKind.i64.wrap ((j : Int) + 1) = (j : Int) + 1 := IntWalk.i64_in _ (by omega)
            obtain ⟨x, hx⟩ : ∃ x, a[j]? = some x := ⟨_, List.getElem?_eq_getElem (by rw [MS.out.len]; omega)⟩
            have hcx : wr.cell? ⟨ba, j, none⟩ = some (.int .i64 (x : Int)) := (blk_cell DW.out.arr j).trans (arr8_get hx)
            have hj8 : (j : Int) < 8 := by omega
            by_cases h1 : x = 1
            · have h1b : ((x : Int) != 1) = false := by simp [h1]
              have HA2 := Lib.hid (show ∀ r : Nat, r < j + 1 → a[r]? = some 1 by
                intro r hr
                rcases Nat.lt_or_ge r j with h | h
                · exact HA.out r h
                · obtain rfl : r = j := by omega
                  rw [hx, h1])
              clear hx h1 hlt
              go_wp2_with fail
              go_roundg (d + 1 - (j + 1))
              case measure => omega
              case rel => exact ⟨j + 1, rfl, by go_num, by omega, HA2.out, DW.out⟩
            · have h1b : ((x : Int) != 1) = true := by simp; omega
              have HNO := Lib.hid (show R = false by
                rw [HR.out]
                refine rightB_f fun r => ?_
                have := (MS.out.iff.1 r.docks).2.2 j hlt
                rw [hx] at this
                exact h1 (by simpa using this))
              clear hx h1 hlt
              go_wp2_with fail
              go_ret
              exact ⟨by rw [HNO.out]; rfl, DW.out.kp⟩
          · obtain rfl : j = d := by omega
            have hd0 : ¬ (j : Int) < (j : Int) := by omega
            have HDS := Lib.hid (MS.out.iff.2 ⟨HBD.out.1, HBD.out.2, HA.out⟩)
            have hb0 : wr.cell? ⟨bf, 0, none⟩ = some (.int .i64 (W : Int)) := blk_cell DW.out.box 0
            have hb1 : wr.cell? ⟨bf, 1, none⟩ = some (.int .i64 (H : Int)) := blk_cell DW.out.box 1
            have hb2 : wr.cell? ⟨bf, 2, none⟩ = some (.string s) := blk_cell DW.out.box 2
            clear hlt MS HA HBD h1I h2I h3I
            go_wp2_with fail
            refine (reached_any W H s l hW1 hW hH1 hH HS.out HLS.out wr).mono ?_
            rintro e w4 ⟨g, on, rfl, bl, hgw, kp4, hon, hcon⟩
            have B4 := Lib.hid (show BxW (Flr.mk W H s) bf w w4 from ⟨kp4.blk DW.out.box (no_no _), DW.out.kp.no kp4⟩)
            have BL := Lib.hid bl; have HON := Lib.hid hon; have HC := Lib.hid hcon
            clear bl hgw kp4 hon hcon hb0 hb1 hb2 DW
            go_wp2_with fail
            clear hnI
            have hnI : ((s.size : Nat) : Int) = (k : Int) := by have := HN.out; omega
            have hnN : s.size = k := HN.out.symm
            go_loopg [10] (k + 1) (fun g2 iv wx => ∃ i : Nat, g2 = k + 1 - i ∧ iv = .int .i64 i ∧ i ≤ k ∧ (∀ r : Nat, r < i → kdS s r = 2 → on[r]? = some true) ∧ (∀ r : Nat, r < i → kdS s r = 3 → ∃ x ∈ besideP W H r, laneI s x) ∧ Kp No w4 wx)
            case atStart => exact ⟨0, rfl, rfl, by omega, fun r hr => by omega, fun r hr => by omega, Kp.refl _ _⟩
            case round =>
              obtain ⟨i, hg2, rfl, hi, hp1, hp2, kp5⟩ := hrel
              have P1 := Lib.hid hp1; have P2 := Lib.hid hp2; have K5 := Lib.hid kp5
              have hb0 : wr.cell? ⟨bf, 0, none⟩ = some (.int .i64 (W : Int)) := (B4.out.no kp5).c0
              have hb1 : wr.cell? ⟨bf, 1, none⟩ = some (.int .i64 (H : Int)) := (B4.out.no kp5).c1
              have hb2 : wr.cell? ⟨bf, 2, none⟩ = some (.string s) := (B4.out.no kp5).c2
              clear hp1 hp2 kp5
              by_cases hlt : i < k
              · have hltI : (i : Int) < (k : Int) := by omega
                have hwi : IntKind.i64.wrap ((i : Int) + 1) = (i : Int) + 1 := IntWalk.i64_in _ (by omega)
                have hks : i < s.size := by have := HN.out; omega
                have hbt := bt_at s i
                obtain ⟨B, hB⟩ : ∃ B, B = bt s i := ⟨_, rfl⟩
                rw [← hB] at hbt
                have hKB : kdS s i = kindB B := by rw [hB]; rfl
                obtain ⟨tl, htl⟩ : ∃ tl, tl = (kindB B == 2) := ⟨_, rfl⟩
                obtain ⟨td, htd⟩ : ∃ td, td = (kindB B == 3) := ⟨_, rfl⟩
                have QL := Lib.hid (fun w => qlane_any B tl htl w)
                have QD := Lib.hid (fun w => qdock_any B td htd w)
                have HTL := Lib.hid (show tl = true ↔ kdS s i = 2 by rw [htl, hKB]; simp)
                have HTD := Lib.hid (show td = true ↔ kdS s i = 3 by rw [htd, hKB]; simp)
                obtain ⟨c, hc⟩ : ∃ c, on[i]? = some c := ⟨_, List.getElem?_eq_getElem (by rw [HON.out]; exact hks)⟩
                have hcx : wr.cell? ⟨g, i, none⟩ = some (.bool c) := (BL.out.kpNo K5.out).get hc
                have HCC := Lib.hid hc
                have HKS := Lib.hid hks
                have hiW : i < W * H := by have := HS.out; omega
                have HIW := Lib.hid hiW
                clear hc htl htd hKB hB hks hlt hiW
                by_cases hbad : tl = true ∧ c = false
                · obtain ⟨rfl, rfl⟩ := hbad
                  have HNO := Lib.hid (show R = false by
                    rw [HR.out]
                    refine rightB_f fun r => ?_
                    have hl : laneI s i := ⟨HKS.out, HTL.out.1 rfl⟩
                    have := (HC.out i hl).2 (by simpa using r.join.2 l i HL.out hl)
                    rw [HCC.out] at this; simp at this)
                  clear hnN
                  go_wp2_with (go_at_call 62; refine (QL.out _).mono ?_; rintro e wz ⟨rfl, rfl⟩)
                  go_ret
                  exact ⟨by rw [HNO.out]; rfl, B4.out.kp.no K5.out⟩
                · have hor : tl = false ∨ (tl = true ∧ c = true) := orTC hbad
                  have P12 := Lib.hid (show ∀ r : Nat, r < i + 1 → kdS s r = 2 → on[r]? = some true by
                    intro r hr h2
                    rcases Nat.lt_or_ge r i with h | h
                    · exact P1.out r h h2
                    · obtain rfl : r = i := by omega
                      have := HTL.out.2 h2
                      rcases hor with h | ⟨_, rfl⟩
                      · rw [h] at this; simp at this
                      · exact HCC.out)
                  clear hbad hnN HCC P1
                  rcases hor with rfl | ⟨rfl, rfl⟩
                  all_goals
                    go_wp2_with (go_at_call 62; refine (QL.out _).mono ?_; rintro e wz ⟨rfl, rfl⟩)
                    refine (qbeside_any W H i s hW1 hW hH1 hH HIW.out wz).mono ?_
                    rintro e w6 ⟨vB, rfl, nb⟩
                    obtain ⟨AB, qB, rfl⟩ := nb.own.rd.shape
                    rw [ints_len] at nb ⊢
                    obtain ⟨nB, hnB⟩ : ∃ nB, nB = (besideP W H i).length := ⟨_, rfl⟩
                    have hB4 : nB ≤ 4 := by rw [hnB]; exact besideP_len W H i
                    rw [← hnB] at nb ⊢
                    have HNB := Lib.hid hnB
                    have K6 := Lib.hid (K5.out.no nb.kp); have OB := Lib.hid nb.own
                    clear nb hnB hb0 hb1 hb2 hcx
                    go_wp2_with fail
                    go_loopg [12, 13] (nB + 1) (fun g3 by_ ii wy => ∃ (j : Nat) (b : Bool), g3 = nB + 1 - j ∧ ii = .int .i64 j ∧ j ≤ nB ∧ by_ = .bool b ∧ b = byTo W H s i j ∧ Kp No w6 wy)
                    case atStart => exact ⟨0, false, rfl, rfl, by omega, rfl, rfl, Kp.refl _ _⟩
                    case round =>
                      obtain ⟨j, b, hgj, rfl, hj, rfl, hb, kp7⟩ := hrel
                      have HBB := Lib.hid hb; have K7 := Lib.hid kp7
                      have hb2 : wr.cell? ⟨bf, 2, none⟩ = some (.string s) := (B4.out.no (K6.out.no kp7)).c2
                      clear hb kp7
                      by_cases hlt : j < nB
                      · have hltI : (j : Int) < (nB : Int) := by omega
                        have hwj : IntKind.i64.wrap ((j : Int) + 1) = (j : Int) + 1 := IntWalk.i64_in _ (by omega)
                        obtain ⟨x, hx⟩ : ∃ x, (besideP W H i)[j]? = some x := ⟨_, List.getElem?_eq_getElem (by rw [← HNB.out]; exact hlt)⟩
                        have hxs : x < s.size := by rw [HS.out]; exact beside_lt hW1 HIW.out (List.mem_of_getElem? hx)
                        rcases OB.out.b with ⟨hv, _⟩ | ⟨gC, capC, hv, _, _, _⟩
                        · simp only [Value.slice.injEq] at hv; omega
                        simp only [Value.slice.injEq] at hv
                        obtain ⟨rfl, hzz, rfl⟩ := hv
                        clear hzz
                        have hcb : wr.cell? ⟨gC, j, none⟩ = some (.int .i64 (x : Int)) := by have := (OB.out.kpNo K7.out).rd.intAt (ints_get hx); simpa using this
                        have hxsI : (x : Int) < ((s.size : Nat) : Int) := by omega
                        have hxn : (x : Int) < (k : Int) := by have := HN.out; omega
                        have hbt := bt_at s x
                        obtain ⟨X, hX⟩ : ∃ X, X = bt s x := ⟨_, rfl⟩
                        rw [← hX] at hbt
                        obtain ⟨t, ht⟩ : ∃ t, t = (kindB X == 2) := ⟨_, rfl⟩
                        have QX := Lib.hid (fun w => qlane_any X t ht w)
                        have HB2 := Lib.hid (show (b || t) = byTo W H s i (j + 1) by
                          rw [byTo_succ hx, ← HBB.out, ht, hX]; rfl)
                        clear hX ht hx hlt hxs
                        cases b with
                        | false =>
                          go_wp2_with fail
                          go_quiet ((go_at_call 62; exact Calls.quiet_of_same (QX.out _)))
                          go_wp2_with fail
                          go_roundg (nB + 1 - (j + 1))
                          case measure => omega
                          case rel => exact ⟨j + 1, t, rfl, by go_num, by omega, rfl, by rw [← HB2.out]; simp, K7.out.drewN _⟩
                        | true =>
                          go_wp2_with fail
                          go_quiet (fail)
                          go_wp2_with fail
                          go_roundg (nB + 1 - (j + 1))
                          case measure => omega
                          case rel => exact ⟨j + 1, true, rfl, by go_num, by omega, rfl, by rw [← HB2.out]; simp, K7.out.drewN _⟩
                      · obtain rfl : j = nB := by omega
                        have hd0 : ¬ (j : Int) < (j : Int) := by omega
                        have HBE := Lib.hid (show b = true ↔ ∃ j ∈ besideP W H i, laneI s j by rw [HBB.out, HNB.out]; exact byTo_all hW1 HS.out HIW.out)
                        have P22 : Hid (td = false ∨ b = true → ∀ r : Nat, r < i + 1 → kdS s r = 3 → ∃ x ∈ besideP W H r, laneI s x) := Lib.hid (by
                          intro hor r hr h3
                          rcases Nat.lt_or_ge r i with h | h
                          · exact P2.out r h h3
                          · obtain rfl : r = i := by omega
                            rcases hor with h | h
                            · have := HTD.out.2 h3; rw [h] at this; simp at this
                            · exact HBE.out.1 h)
                        clear hlt
                        cases td with
                        | false =>
                          have P23 := Lib.hid (P22.out (.inl rfl))
                          go_wp2_with (go_at_call 61; refine (QD.out _).mono ?_; rintro e wz ⟨rfl, rfl⟩)
                          go_roundg (k + 1 - (i + 1))
                          case measure => omega
                          case rel => exact ⟨i + 1, rfl, by go_num, by omega, P12.out, P23.out, K6.out.no K7.out⟩
                        | true =>
                          cases b with
                          | true =>
                            have P23 := Lib.hid (P22.out (.inr rfl))
                            go_wp2_with (go_at_call 61; refine (QD.out _).mono ?_; rintro e wz ⟨rfl, rfl⟩)
                            go_roundg (k + 1 - (i + 1))
                            case measure => omega
                            case rel => exact ⟨i + 1, rfl, by go_num, by omega, P12.out, P23.out, K6.out.no K7.out⟩
                          | false =>
                            have HNO := Lib.hid (show R = false by
                              rw [HR.out]
                              refine rightB_f fun r => ?_
                              have := HBE.out.2 (by simpa using r.by_ i HKS.out (HTD.out.1 rfl)); simp at this)
                            go_wp2_with (go_at_call 61; refine (QD.out _).mono ?_; rintro e wz ⟨rfl, rfl⟩)
                            go_ret
                            exact ⟨by rw [HNO.out]; rfl, B4.out.kp.no (K6.out.no K7.out)⟩
              · obtain rfl : i = k := by omega
                have hd0 : ¬ (i : Int) < (i : Int) := by omega
                have HYES := Lib.hid (show R = true by
                  rw [HR.out]
                  refine rightB_t ⟨by simp; omega, by simp; omega, by simp; omega, by simp; omega, by simp [HS.out], fun r hr => HZ.out r (by have hr : r < s.size := hr; omega), HDS.out, ?_, fun r hr h3 => by simpa using P2.out r (by have hr : r < s.size := hr; omega) h3⟩
                  refine (joined_one (by simpa using hW1) (by simpa using HS.out) HL.out).2 fun r hr => ?_
                  have := (HC.out r hr).1 (P1.out r (by have hr := hr.1; have hr : r < s.size := hr; omega) hr.2)
                  simpa using this)
                clear hlt hnN
                go_wp2_with fail
                go_ret
                exact ⟨by rw [HYES.out]; rfl, B4.out.kp.no K5.out⟩

theorem qright_any (f : Flr) (hsz : f.s.size ≤ 9223372036854775807) (w : World) : Calls Tryd.prog 44 #[f.val] w (RightR f w) := by
  by_cases h : f.W < 1 ∨ 16 < f.W ∨ f.H < 1 ∨ 16 < f.H ∨ ((f.s.size : Int) ≠ f.W * f.H)
  · exact qright_dims f w h hsz
  · obtain ⟨X, Y, s⟩ := f
    simp only at h
    obtain ⟨W, rfl⟩ : ∃ W : Nat, X = W := ⟨X.toNat, by omega⟩
    obtain ⟨H, rfl⟩ : ∃ H : Nat, Y = H := ⟨Y.toNat, by omega⟩
    refine qright_in W H s (by omega) (by omega) (by omega) (by omega) ?_ w
    have : (s.size : Int) = W * H := by
      by_cases hh : (s.size : Int) = W * H
      · exact hh
      · exact absurd (Or.inr (Or.inr (Or.inr (Or.inr hh)))) h
    exact_mod_cast this
end Go.Proofs.YthchoknhkhfdnaaDoor
