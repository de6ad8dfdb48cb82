/- path, plain: the way that a search found. No function of the program; slices.Reverse of ints; path.Find: what is refused; path.Find; slices.Index, slices.Contains of ints; trip, plain: acts, what a robot does, which acts are right, what they cost, which zones they go through; trip: lane, Cost; trip: does (written by bin/gen_tr.py). No condition. -/
import Derived.Test.YtmipnicdlldjnaaGreatDoorM4
import Derived.Test.YtmipnicdlldjnaaGreatDoorM3
import Derived.BigRegion
import Derived.Deep.LoopGhost
import Derived.Test.YtmipnicdlldjnaaGreatDoorM1
import Derived.Deep.RegionHeld3

namespace Go.Proofs.YtmipnicdlldjnaaGreatDoor
set_option linter.unusedVariables false
set_option linter.unusedSimpArgs false
open Go.RowKit

/-- The node behind the first k of a way from s. -/
def nd (s : Nat) (Q : List Nat) : Nat → Nat
  | 0 => s
  | k + 1 => Q.getD k 0
theorem nd_succ {s k b : Nat} {Q : List Nat} (h : Q[k]? = some b) : nd s Q (k + 1) = b := by
  show Q.getD k 0 = b
  rw [List.getD_eq_getElem?_getD, h]; rfl
theorem nd_app {s k : Nat} {Q : List Nat} (h : k ≤ Q.length) (b : Nat) : nd s (Q ++ [b]) k = nd s Q k := by
  cases k with
  | zero => rfl
  | succ k =>
    show (Q ++ [b]).getD k 0 = Q.getD k 0
    rw [List.getD_eq_getElem?_getD, List.getD_eq_getElem?_getD, List.getElem?_append_left (by omega)]
theorem nd_last (s : Nat) (Q : List Nat) (b : Nat) : nd s (Q ++ [b]) (Q.length + 1) = b := nd_succ (by simp)
/-- Each step goes to the first neighbour from which there is a walk of the steps that are left. -/
structure FstW (st : Nat → List Nat) (s g : Nat) (Q : List Nat) : Prop where
  en : nd s Q Q.length = g
  at_ : ∀ (k b : Nat), Q[k]? = some b → Wk st b (Q.length - 1 - k) g ∧ ∃ m : Nat, (st (nd s Q k))[m]? = some b ∧ ∀ (m' l : Nat), m' < m → (st (nd s Q k))[m']? = some l → ¬ Wk st l (Q.length - 1 - k) g
structure Chn (st : Nat → List Nat) (s : Nat) (By : List Int) (P : List (Nat × Nat)) (Q I : List Nat) : Prop where
  len : I.length = Q.length
  at_ : ∀ (k b : Nat), Q[k]? = some b → ∃ i m : Nat, I[k]? = some i ∧ P[i]? = some (k + 1, b) ∧ (st (nd s Q k))[m]? = some b ∧ By[b]? = some (nd s Q k : Int) ∧ (∀ m' c', m' < m → (st (nd s Q k))[m']? = some c' → inP P i c') ∧ (∀ j' l' u', j' < nd 0 I k → P[j']? = some (l', u') → ∀ c' ∈ st u', inP P i c')
theorem Wk.front {st : Nat → List Nat} {a b c k : Nat} (h : b ∈ st a) (hw : Wk st b k c) : Wk st a (k + 1) c := by
  induction hw with
  | nil => exact .step .nil h
  | step _ hc ih => exact .step ih hc
theorem Wk.trans {st : Nat → List Nat} {a b c j k : Nat} (h : Wk st a j b) (hw : Wk st b k c) : Wk st a (j + k) c := by
  induction hw with
  | nil => exact h
  | step _ hc ih => exact .step ih hc
section
variable {st : Nat → List Nat} {s n t : Nat} {D By : List Int} {P : List (Nat × Nat)} {Q I : List Nat}
theorem BfI.chain (h : BfI st s n t D By P) : ∀ (i k c : Nat), P[i]? = some (k, c) → ∃ Q I, List.length Q = k ∧ nd s Q k = c ∧ nd 0 I k = i ∧ Chn st s By P Q I := by
  intro i
  induction i using Nat.strongRecOn with
  | _ i ih =>
    intro k c hi
    rcases Nat.eq_zero_or_pos i with rfl | h0
    · rw [h.z] at hi; cases hi
      exact ⟨[], [], rfl, rfl, rfl, rfl, fun k b hb => by simp at hb⟩
    · obtain ⟨j, l, u, m, h1, h2, rfl, h4, h5, h6, h7⟩ := h.by_ _ _ _ h0 hi
      obtain ⟨Q, I, q1, q2, q3, q4⟩ := ih j h1 l u h2
      refine ⟨Q ++ [c], I ++ [i], by simp [q1], by rw [← q1]; exact nd_last s Q c, by rw [← q1, ← q4.len]; exact nd_last 0 I i, by simp [q4.len], fun k b hb => ?_⟩
      rcases Nat.lt_or_ge k Q.length with hk | hk
      · rw [List.getElem?_append_left hk] at hb
        obtain ⟨i2, m2, a1, a2, a3, a4, a5, a6⟩ := q4.at_ k b hb
        rw [nd_app (by omega), nd_app (by rw [q4.len]; omega)]
        exact ⟨i2, m2, by rw [List.getElem?_append_left (by rw [q4.len]; exact hk)]; exact a1, a2, a3, a4, a5, a6⟩
      · have hk2 : k = Q.length := by
          have := (List.getElem?_eq_some_iff.1 hb).1
          simp at this; omega
        subst hk2
        simp at hb; subst hb
        rw [nd_app (Nat.le_refl _), nd_app (by rw [q4.len]; exact Nat.le_refl _), q1, q2, q3]
        exact ⟨i, m, by rw [← q1, ← q4.len]; simp, hi, h4, h5, h6, h7⟩
theorem Chn.low (h : Chn st s By P Q I) {k : Nat} : ∀ d r e, k + d ≤ Q.length → inP P (nd 0 I k) r → Wk st r d e → inP P (nd 0 I (k + d)) e := by
  intro d
  induction d with
  | zero => intro r e _ hr hw; cases hw; exact hr
  | succ d ih =>
    intro r e hd hr hw
    cases hw with
    | step hw hc =>
      obtain ⟨j, l, h1, h2⟩ := ih _ _ (by omega) hr hw
      obtain ⟨b, hb⟩ : ∃ b, Q[k + d]? = some b := ⟨_, List.getElem?_eq_getElem (by omega)⟩
      obtain ⟨i, m, a1, _, _, _, _, a6⟩ := h.at_ _ _ hb
      rw [show k + (d + 1) = (k + d) + 1 by omega, nd_succ a1]
      exact a6 j l _ h1 h2 _ hc
theorem Chn.walk (h : Chn st s By P Q I) : ∀ d k, k + d = Q.length → Wk st (nd s Q k) d (nd s Q Q.length) := by
  intro d
  induction d with
  | zero => intro k hk; rw [show k = Q.length by omega]; exact .nil
  | succ d ih =>
    intro k hk
    obtain ⟨b, hb⟩ : ∃ b, Q[k]? = some b := ⟨_, List.getElem?_eq_getElem (by omega)⟩
    obtain ⟨i, m, _, _, a3, _⟩ := h.at_ _ _ hb
    have := ih (k + 1) (by omega)
    rw [nd_succ hb] at this
    exact .front (List.mem_of_getElem? a3) this
theorem Chn.fst (h : Chn st s By P Q I) (hb : BfI st s n t D By P) : FstW st s (nd s Q Q.length) Q := by
  refine ⟨rfl, fun k b hk => ?_⟩
  have hl := (List.getElem?_eq_some_iff.1 hk).1
  obtain ⟨i, m, a1, a2, a3, a4, a5, a6⟩ := h.at_ _ _ hk
  refine ⟨?_, m, a3, fun m' l hm hl2 hw => ?_⟩
  · have := h.walk (Q.length - 1 - k) (k + 1) (by omega)
    rwa [nd_succ hk] at this
  · have h1 : inP P (nd 0 I (k + 1)) l := by rw [nd_succ a1]; exact a5 m' l hm hl2
    obtain ⟨j, l', h2, h3⟩ := h.low (k := k + 1) (Q.length - 1 - k) l _ (by omega) h1 hw
    rw [show k + 1 + (Q.length - 1 - k) = Q.length by omega] at h2
    obtain ⟨b2, hb2⟩ : ∃ b, Q[Q.length - 1]? = some b := ⟨_, List.getElem?_eq_getElem (by omega)⟩
    obtain ⟨i2, m2, c1, c2, _⟩ := h.at_ _ _ hb2
    have e1 : nd s Q Q.length = b2 := by
      have := nd_succ (s := s) hb2
      rwa [show Q.length - 1 + 1 = Q.length by omega] at this
    have e2 : nd 0 I Q.length = i2 := by
      have := nd_succ (s := 0) c1
      rwa [show Q.length - 1 + 1 = Q.length by omega] at this
    rw [e1] at h3
    have := hb.inj _ _ _ _ _ h3 c2
    omega
theorem Chn.node (h : Chn st s By P Q I) (hb : BfI st s n t D By P) {k : Nat} (h0 : 0 < k) (hk : k ≤ Q.length) : nd s Q k ≠ s ∧ nd s Q k < n ∧ By[nd s Q k]? = some (nd s Q (k - 1) : Int) ∧ Q[k - 1]? = some (nd s Q k) := by
  obtain ⟨b, hb2⟩ : ∃ b, Q[k - 1]? = some b := ⟨_, List.getElem?_eq_getElem (by omega)⟩
  obtain ⟨i, m, a1, a2, a3, a4, _⟩ := h.at_ _ _ hb2
  have e1 : nd s Q k = b := by
    have := nd_succ (s := s) hb2
    rwa [show k - 1 + 1 = k by omega] at this
  rw [e1]
  obtain ⟨c1, c2, _⟩ := hb.q _ _ _ a2
  refine ⟨fun e => ?_, c1, a4, hb2⟩
  rw [e] at c2
  have := (hb.q _ _ _ hb.z).2.1
  rw [c2] at this; simp at this; omega
end
end Go.Proofs.YtmipnicdlldjnaaGreatDoor

namespace Go.Proofs.YtmipnicdlldjnaaGreatDoor
set_option linter.unusedVariables false
set_option linter.unusedSimpArgs false
open Go.RowKit

theorem Own.set1 {α : Type} {K : Kd α} {enc : α → Value} (hK : K1 K enc) {e : TypeId} {w : World} {g n cap : Nat} {l : List α} (h : Own K e w (.slice (some ⟨g, 0, none⟩) n cap) l) (i : Nat) (x : α) (hi : i < l.length) :
    Own K e (w.setCell ⟨g, i, none⟩ (enc x)) (.slice (some ⟨g, 0, none⟩) n cap) (l.set i x) := by
  rcases h with ⟨h, _⟩ | ⟨g', cap', cur, h0, h1, h2, h3, h4, h5⟩
  · simp at h
  · simp only [Value.slice.injEq, Option.some.injEq, Addr.mk.injEq] at h0
    obtain ⟨⟨rfl, _⟩, rfl, rfl⟩ := h0
    refine .inr ⟨g, cap, cur.setIfInBounds i (enc x), by rw [List.length_set], ?_, by rw [List.length_set]; exact h2, h3, by simpa using h4, ?_⟩
    · exact blk_set h1 i (enc x)
    · rw [List.length_set, hK.encs, hK.sz, Nat.mul_one] at *
      rw [List.map_set, ← h5, Array.toList_setIfInBounds, List.take_set]
theorem ownI_free {w : World} {e : TypeId} {g n cap : Nat} {l : List Int} (h : Own IK e w (.slice (some ⟨g, 0, none⟩) n cap) l) (i : Nat) : w.frozen? ⟨g, i, none⟩ = false := by
  rcases h with ⟨h, _⟩ | ⟨g', cap', cur, h0, h1, _⟩
  · simp at h
  · simp only [Value.slice.injEq, Option.some.injEq, Addr.mk.injEq] at h0
    obtain ⟨⟨rfl, _⟩, _⟩ := h0
    exact blk_free h1 i
def RvI (l L : List Int) (k : Nat) : Prop := L.length = l.length ∧ ∀ p, p < l.length → L[p]? = if p < k ∨ l.length ≤ p + k then l[l.length - 1 - p]? else l[p]?
theorem RvI.zero (l : List Int) : RvI l l 0 := ⟨rfl, fun p hp => by rw [if_neg (by omega)]⟩
theorem RvI.step {l L : List Int} {k : Nat} (h : RvI l L k) (hk : 2 * k + 1 < l.length) {a b : Int} (ha : L[k]? = some a) (hb : L[l.length - 1 - k]? = some b) : RvI l ((L.set k b).set (l.length - 1 - k) a) (k + 1) := by
  obtain ⟨h1, h2⟩ := h
  refine ⟨by simp [h1], fun p hp => ?_⟩
  have ea := h2 k (by omega)
  rw [if_neg (by omega), ha] at ea
  have eb := h2 (l.length - 1 - k) (by omega)
  rw [if_neg (by omega), hb] at eb
  rw [List.getElem?_set, List.length_set, h1]
  by_cases e1 : l.length - 1 - k = p
  · rw [if_pos e1, if_pos (by omega), if_pos (by omega), ← e1, show l.length - 1 - (l.length - 1 - k) = k by omega, ← ea]
  · rw [if_neg e1, List.getElem?_set, h1]
    by_cases e2 : k = p
    · subst e2
      rw [if_pos rfl, if_pos (by omega), if_pos (by omega), ← eb]
    · rw [if_neg e2, h2 p hp]
      by_cases e3 : p < k ∨ l.length ≤ p + k
      · rw [if_pos e3, if_pos (by omega)]
      · rw [if_neg e3, if_neg (by omega)]
theorem RvI.done {l L : List Int} {k : Nat} (h : RvI l L k) (hk : l.length ≤ 2 * k + 1) : L = l.reverse := by
  apply List.ext_getElem?
  intro p
  rcases Nat.lt_or_ge p l.length with hp | hp
  · rw [h.2 p hp, List.getElem?_reverse hp]
    split
    · rfl
    · congr 1; omega
  · rw [List.getElem?_eq_none (by rw [h.1]; exact hp), List.getElem?_eq_none (by simpa using hp)]

set_option maxHeartbeats 1000000 in
set_option maxRecDepth 100000 in
theorem revI_any {w : World} {v : Value} {l : List Int} (hv : Own IK 3 w v l) (hl : l.length ≤ 1000000) :
    Calls Tryz.prog 38 #[v] w fun e w' => e = .returned (.tuple #[]) ∧ Own IK 3 w' v l.reverse ∧ Kp (fun k => v.ownBlock = some k) w w' := by
  obtain ⟨A, c, rfl⟩ := hv.rd.shape
  obtain ⟨n, hn⟩ : ∃ n, n = l.length := ⟨_, rfl⟩
  rw [← hn] at hv hl ⊢
  have H := Lib.hid hv; have HN := Lib.hid hn
  have hwn : IntKind.i64.wrap ((n : Int) - 1) = (n : Int) - 1 := IntWalk.i64_in _ (by omega)
  clear hv hn
  go_enter Tryz.func38, Tryz.ntmps38
  go_wp2_with fail
  go_loopg [2, 3] (n + 1) (fun g_ iv jv wx => ∃ (k : Nat) (L : List Int), g_ = n + 1 - k ∧ iv = .int .i64 k ∧ jv = .int .i64 ((n : Int) - 1 - k) ∧ k ≤ n ∧ RvI l L k ∧ Own IK 3 wx (.slice A n c) L ∧ Kp (fun k => (Value.slice A n c).ownBlock = some k) w wx)
  case atStart => exact ⟨0, l, rfl, rfl, by simp, by omega, RvI.zero l, H.out, Kp.refl _ _⟩
  case round =>
    obtain ⟨k, L, hg, rfl, rfl, hk, rv, ow, kp⟩ := hrel
    have RV := Lib.hid rv; have OW := Lib.hid ow; have KP := Lib.hid kp
    clear rv ow kp
    by_cases hlt : 2 * k + 1 < n
    · have hltI : (k : Int) < (n : Int) - 1 - (k : Int) := by omega
      obtain ⟨j, hj⟩ : ∃ j : Nat, j = n - 1 - k := ⟨_, rfl⟩
      have hjI : (n : Int) - 1 - (k : Int) = (j : Int) := by omega
      rw [hjI] at hltI ⊢
      have hkn : (k : Int) < (n : Int) := by omega
      have hjn : (j : Int) < (n : Int) := by omega
      have hwi : IntKind.i64.wrap ((k : Int) + 1) = (k : Int) + 1 := IntWalk.i64_in _ (by omega)
      have hwj : IntKind.i64.wrap ((j : Int) - 1) = (j : Int) - 1 := IntWalk.i64_in _ (by omega)
      have hLl : L.length = n := by rw [RV.out.1, HN.out]
      obtain ⟨a, ha⟩ : ∃ a, L[k]? = some a := ⟨_, List.getElem?_eq_getElem (by omega)⟩
      obtain ⟨b, hb⟩ : ∃ b, L[j]? = some b := ⟨_, List.getElem?_eq_getElem (by omega)⟩
      have RV2 := Lib.hid (show RvI l ((L.set k b).set j a) (k + 1) by
        have := RV.out.step (by rw [← HN.out]; exact hlt) ha (by rw [← HN.out, ← hj]; exact hb)
        rwa [← HN.out, ← hj] at this)
      rcases OW.out.b with ⟨hv, _⟩ | ⟨g, cap', hv, _, _, _⟩
      · simp only [Value.slice.injEq] at hv; omega
      simp only [Value.slice.injEq] at hv
      obtain ⟨rfl, _, _⟩ := hv
      have hca : wr.cell? ⟨g, k, none⟩ = some (.int .i64 a) := by have := OW.out.rd.intAt ha; simpa using this
      have hcb : wr.cell? ⟨g, j, none⟩ = some (.int .i64 b) := by have := OW.out.rd.intAt hb; simpa using this
      have hfa := ownI_free OW.out k
      have hfb := ownI_free OW.out j
      have O1 := OW.out.set1 IK1 k b (by omega)
      have hcb' : (wr.setCell ⟨g, k, none⟩ (.int .i64 b)).cell? ⟨g, j, none⟩ = some (.int .i64 b) := by
        have := O1.rd.intAt (i := j) (x := b) (by rw [List.getElem?_set, if_neg (by omega)]; exact hb); simpa using this
      have hfb' := ownI_free O1 j
      have O2 := Lib.hid (O1.set1 IK1 j a (by rw [List.length_set]; omega))
      have K2 := Lib.hid ((KP.out.setCell (p := ⟨g, k, none⟩) (fun _ => rfl) (.int .i64 b)).setCell (p := ⟨g, j, none⟩) (fun _ => rfl) (.int .i64 a))
      have HJ := Lib.hid hj
      clear ha hb hLl hlt hj O1
      go_wp2_with fail
      go_region
      go_wp2_with fail
      go_roundg (n + 1 - (k + 1))
      case measure => omega
      case rel => exact ⟨k + 1, _, rfl, by go_num, by simp; omega, by omega, RV2.out, O2.out.kpNo ((Kp.refl No _).drew), K2.out.no ((Kp.refl No _).drew)⟩
    · have hd0 : ¬ (k : Int) < (n : Int) - 1 - (k : Int) := by omega
      have HE := Lib.hid (RV.out.done (by rw [← HN.out]; omega))
      clear hlt
      go_wp2_with fail
      go_end0
      exact ⟨rfl, by rw [← HE.out]; exact OW.out, KP.out⟩
end Go.Proofs.YtmipnicdlldjnaaGreatDoor

namespace Go.Proofs.YtmipnicdlldjnaaGreatDoor
set_option linter.unusedVariables false
set_option linter.unusedSimpArgs false
open Go.RowKit

/-- Is there such a cell, and no wall? -/
def opB (f : Flr) (c : Int) : Bool := decide (0 ≤ c) && decide (c < f.s.size) && (bt f.s c.toNat != 35)
set_option maxHeartbeats 1000000 in
set_option maxRecDepth 100000 in
theorem ptFind_arg (f : Flr) (hsz : f.s.size ≤ 1000000) (fr tg : Int) {bv : Value} {B : List Int} {w : World} (hB : Rd IK w bv B) (h : ptOk f fr = false ∨ opB f tg = false) :
    Calls Tryz.prog 20 #[f.val, .int .i64 fr, .int .i64 tg, bv] w fun e w' => e = .returned (.tuple #[.slice none 0 0, .int .i64 1]) ∧ Kp No w w' := by
  have HBX := Lib.hid (BxW.new f w)
  cases hok : ptOk f fr with
  | false =>
    have HO := Lib.hid (ptof_no f hsz fr bv hok)
    obtain ⟨X, Y, s⟩ := f
    unfold Flr.val at HO ⊢
    clear hok hsz hB h
    go_enter Tryz.func20, Tryz.ntmps20
    go_wp2_with (go_at_call 36; refine (HO.out _).mono ?_; rintro e w1 ⟨rfl, kp1⟩; have K1 := Lib.hid kp1; clear kp1)
    go_ret2
    exact ⟨rfl, HBX.out.kp.no K1.out⟩
  | true =>
    obtain ⟨k, rfl, hk, hr⟩ := ptOk_nat hok
    have h2 : opB f tg = false := by rcases h with h | h; rw [hok] at h; simp at h; exact h
    have HO := Lib.hid (ptof_ok f hsz k (w := w.alloc (.cells #[.int .i64 f.W, .int .i64 f.H, .string f.s] 23)) (hB.alloc _) hok)
    obtain ⟨n, hn⟩ : ∃ n, n = f.s.size := ⟨_, rfl⟩
    have hnI : ((f.s.size : Nat) : Int) = (n : Int) := by omega
    unfold opB at h2
    by_cases h0 : tg < 0
    · have h0b : decide (tg < 0) = true := by simpa using h0
      obtain ⟨X, Y, s⟩ := f
      simp only at hnI
      unfold Flr.val at HO ⊢
      clear hok hsz hB h hk hr h2 hn
      go_enter Tryz.func20, Tryz.ntmps20
      go_wp2_with fail
      refine HO.out.mono ?_
      rintro e w1 ⟨p, g1, g2, g3, Vs, rfl, pl, kp1⟩
      have K1 := Lib.hid (HBX.out.kp.no kp1)
      clear pl kp1
      go_wp2_with fail
      go_ret2
      exact ⟨rfl, K1.out⟩
    · by_cases h1 : (n : Int) ≤ tg
      · obtain ⟨X, Y, s⟩ := f
        simp only at hnI
        unfold Flr.val at HO ⊢
        clear hok hsz hB h hk hr h2 hn
        go_enter Tryz.func20, Tryz.ntmps20
        go_wp2_with fail
        refine HO.out.mono ?_
        rintro e w1 ⟨p, g1, g2, g3, Vs, rfl, pl, kp1⟩
        have B1 := Lib.hid (HBX.out.no kp1)
        have hb2 : w1.cell? ⟨w.heap.size, 2, none⟩ = some (.string s) := B1.out.c2
        clear pl kp1
        go_wp2_with fail
        go_ret2
        exact ⟨rfl, B1.out.kp⟩
      · obtain ⟨j, rfl⟩ : ∃ j : Nat, tg = j := ⟨tg.toNat, by omega⟩
        have h35 : bt f.s j = 35 := by
          simp at h2; first | exact h2 | exact h2 (by omega) | exact h2 (by omega) (by omega)
        have hjs : j < f.s.size := by omega
        have hbt := bt_at f.s j hjs
        rw [h35] at hbt
        obtain ⟨X, Y, s⟩ := f
        simp only at hnI hbt hjs
        have hbs : ((s[j]'hjs).toNat : Int) = 35 := by rw [hbt]; rfl
        unfold Flr.val at HO ⊢
        clear hok hsz hB h hk hr h2 hn h35
        go_enter Tryz.func20, Tryz.ntmps20
        go_wp2_with fail
        refine HO.out.mono ?_
        rintro e w1 ⟨p, g1, g2, g3, Vs, rfl, pl, kp1⟩
        have B1 := Lib.hid (HBX.out.no kp1)
        have hb2 : w1.cell? ⟨w.heap.size, 2, none⟩ = some (.string s) := B1.out.c2
        clear pl kp1
        go_wp2_with fail
        go_ret2
        exact ⟨rfl, B1.out.kp⟩
end Go.Proofs.YtmipnicdlldjnaaGreatDoor

namespace Go.Proofs.YtmipnicdlldjnaaGreatDoor
set_option linter.unusedVariables false
set_option linter.unusedSimpArgs false
open Go.RowKit

def FindO (f : Flr) (fr tg : Nat) (B : List Int) (w : World) (e : Ending) (w' : World) : Prop :=
  (dst (stepsP f fr B) fr tg < 0 ∧ e = .returned (.tuple #[.slice none 0 0, .int .i64 2]) ∧ Kp No w w') ∨
  ∃ Q A q, dst (stepsP f fr B) fr tg = (List.length Q : Int) ∧ FstW (stepsP f fr B) fr tg Q ∧ e = .returned (.tuple #[.slice A Q.length q, .int .i64 0]) ∧ NewS IK 3 w w' (.slice A Q.length q) (ints Q)
theorem drop_rev {Q : List Nat} {j b : Nat} (h : Q[j]? = some b) : (Q.drop j).reverse = (Q.drop (j + 1)).reverse ++ [b] := by
  have hl := (List.getElem?_eq_some_iff.1 h).1
  rw [List.drop_eq_getElem_cons hl, List.reverse_cons, (List.getElem?_eq_some_iff.1 h).2]

set_option maxHeartbeats 1000000 in
set_option maxRecDepth 100000 in
theorem ptFind_any (f : Flr) (hsz : f.s.size ≤ 1000000) (k c : Nat) {bv : Value} {B : List Int} {w : World} (hB : Rd IK w bv B) (hok : ptOk f k = true) (hop : opB f c = true) :
    Calls Tryz.prog 20 #[f.val, .int .i64 (k : Int), .int .i64 (c : Int), bv] w (FindO f k c B w) := by
  have HBX := Lib.hid (BxW.new f w)
  obtain ⟨k', hkk, hk, hr⟩ := ptOk_nat hok
  obtain rfl : k = k' := by omega
  clear hkk
  have HO := Lib.hid (ptof_ok f hsz k (w := w.alloc (.cells #[.int .i64 f.W, .int .i64 f.H, .string f.s] 23)) (hB.alloc _) hok)
  have hs256 : f.s.size ≤ 256 := hr.s256
  obtain ⟨n, hn⟩ : ∃ n, n = f.s.size := ⟨_, rfl⟩
  have hnI : ((f.s.size : Nat) : Int) = (n : Int) := by omega
  unfold opB at hop
  simp only [Bool.and_eq_true, decide_eq_true_eq, bne_iff_ne, Int.toNat_natCast] at hop
  obtain ⟨⟨_, hc⟩, h35⟩ := hop
  have hcn : c < n := by omega
  have hcnI : (c : Int) < (n : Int) := by omega
  have hjs : c < f.s.size := by omega
  have hbt := bt_at f.s c hjs
  have h35b : ((bt f.s c : Int) == 35) = false := by simp; omega
  have HK := Lib.hid hk; have HR := Lib.hid hr; have HN := Lib.hid hn
  obtain ⟨F, hF⟩ : ∃ F, F = f := ⟨_, rfl⟩
  have HF := Lib.hid hF
  rw [← hF] at HK HR HN
  obtain ⟨X, Y, s⟩ := f
  simp only at hnI hbt hjs h35b
  have hbs : ((s[c]'hjs).toNat : Int) = (bt s c : Int) := by rw [hbt]
  rw [show FindO ⟨X, Y, s⟩ k c B w = FindO F k c B w by rw [hF]]
  unfold FindO
  obtain ⟨N, hNd⟩ : ∃ N, N = dst (stepsP F k B) k c := ⟨_, rfl⟩
  rw [← hNd]
  have HND := Lib.hid hNd
  have hn256 : n ≤ 256 := by omega
  unfold Flr.val at HO ⊢
  clear hok hsz hB h35 hk hr hn hF hs256 hNd
  go_enter Tryz.func20, Tryz.ntmps20
  go_wp2_with fail
  refine HO.out.mono ?_
  rintro e w1 ⟨p, g1, g2, g3, Vs, rfl, pl, kp1⟩
  have DI := Lib.hid (ptdist_any (f := F) HR.out (by rw [HF.out]; exact pl) HK.out)
  have B1 := Lib.hid (HBX.out.no kp1)
  have hb2 : w1.cell? ⟨w.heap.size, 2, none⟩ = some (.string s) := B1.out.c2
  clear pl kp1
  go_wp2_with fail
  refine DI.out.mono ?_
  rintro e w2 ⟨gd, gb, D, By, P, t, rfl, bd, bb, _, hgd, hgb, kp2, ht, bi⟩
  have hlD := bi.lenD
  rw [← HN.out] at hlD bi ⊢
  have K2 := Lib.hid (B1.out.kp.no kp2)
  obtain ⟨d, hd⟩ : ∃ d, D[c]? = some d := ⟨_, List.getElem?_eq_getElem (by omega)⟩
  have hcd : w2.cell? ⟨gd, c, none⟩ = some (.int .i64 d) := bd.get hd
  have HD := Lib.hid (show N = d by
    have h1 := bi.dl ht
    rw [h1, distL_get hcn] at hd
    rw [HND.out]; exact Option.some.inj hd)
  clear hb2 kp2 hgd hgb
  by_cases h0 : d < 0
  · clear bi ht bb bd hd
    go_wp2_with fail
    go_ret2
    exact .inl ⟨by rw [HD.out]; exact h0, rfl, K2.out⟩
  · rcases bi.on c d hd with e1 | ⟨i, kk, hP⟩
    · omega
    · have e2 := (bi.q _ _ _ hP).2.1
      rw [hd] at e2; simp at e2
      have hkk : kk ≤ n := by have := bi.key _ _ _ hP; have := bi.len; have := (List.getElem?_eq_some_iff.1 hP).1; omega
      obtain ⟨Q, I, q1, q2, _, q4⟩ := bi.chain i kk c hP
      have FS := Lib.hid (show FstW (stepsP F k B) k c Q by have := q4.fst bi; rwa [q1, q2] at this)
      have NO := Lib.hid (fun j h1 h2 => q4.node bi (k := j) h1 h2)
      have Q1 := Lib.hid q1
      have Q2 := Lib.hid q2
      have BB := Lib.hid bb
      have HE := Lib.hid (show N = (kk : Int) by rw [HD.out]; omega)
      clear bi ht bb bd hd hP q1 q4 q2 hlD DI e2
      go_wp2_with fail
      go_loopg [14, 15] (kk + 1) (fun g_ ov av wx => ∃ (i : Nat) (A : Option Addr) (q : Nat), g_ = kk + 1 - i ∧ i ≤ kk ∧ av = .int .i64 (nd k Q (kk - i) : Nat) ∧ ov = .slice A i q ∧ NewS IK 3 w2 wx (.slice A i q) (ints (Q.drop (kk - i)).reverse))
      case atStart => exact ⟨0, none, 0, rfl, by omega, by rw [Nat.sub_zero, Q2.out], rfl, by
        rw [Nat.sub_zero, List.drop_eq_nil_of_le (by rw [Q1.out]; exact Nat.le_refl _)]; exact NewS.nil _ _ _⟩
      case round =>
        obtain ⟨i, A, q, hg, hi, rfl, rfl, ns⟩ := hrel
        have NS := Lib.hid ns
        clear ns hcd
        by_cases hlt : i < kk
        · obtain ⟨n1, n2, n3, n4⟩ := NO.out (kk - i) (by omega) (by rw [Q1.out]; omega)
          have hu := drop_rev n4
          rw [show kk - i - 1 + 1 = kk - i by omega] at hu
          obtain ⟨u, hu2⟩ : ∃ u, u = nd k Q (kk - i) := ⟨_, rfl⟩
          obtain ⟨v, hv2⟩ : ∃ v, v = nd k Q (kk - i - 1) := ⟨_, rfl⟩
          rw [← hu2] at n1 n2 n3 hu ⊢
          rw [← hv2] at n3
          have hub : ((u : Int) != (k : Int)) = true := by simp; omega
          have hun : (u : Int) < (n : Int) := by omega
          have HU := Lib.hid hu; have HV := Lib.hid hv2
          have N3 := Lib.hid n3
          have HLT := Lib.hid hlt
          clear hu hu2 hv2 n1 n2 n3 n4 hlt
          go_wp2_with (at_builtin; refine wpl_snocI (m := i) rfl (.tmp 61) (.tmp 63) rfl rfl rfl rfl NS.out (by rw [List.length_reverse, List.length_drop, Q1.out]; omega) (by omega) ?_; intro A2 q2 w4 m4 k4 _; have N4 := Lib.hid m4; have hcb : w4.cell? ⟨gb, u, none⟩ = some (.int .i64 (v : Int)) := (BB.out.kpNo N4.out.kp).get N3.out; clear m4 k4)
          go_roundg (kk + 1 - (i + 1))
          case measure => omega
          case rel => exact ⟨i + 1, A2, q2, rfl, by have := HLT.out; omega, by rw [show kk - (i + 1) = kk - i - 1 by omega, ← HV.out], rfl, by rw [show kk - (i + 1) = kk - i - 1 by omega, HU.out]; exact N4.out⟩
        · obtain rfl : i = kk := by omega
          have hQl : (Q.drop (i - i)).reverse = Q.reverse := by rw [Nat.sub_self]; rfl
          have hns := NS.out
          rw [hQl] at hns
          have RV := Lib.hid (revI_any hns.own (by rw [ints_len, List.length_reverse, Q1.out]; omega))
          have NR := Lib.hid hns
          have e0 : nd k Q (i - i) = k := by rw [Nat.sub_self]; rfl
          rw [e0]
          have hkb : ((k : Int) != (k : Int)) = false := by simp
          clear hlt hns hQl e0
          go_wp2_with fail
          refine RV.out.mono ?_
          rintro e w5 ⟨rfl, ow, kp5⟩
          have N5 := Lib.hid (show NewS IK 3 w w5 (.slice A i q) (ints Q) from
            ⟨by rw [show (ints Q.reverse).reverse = ints Q by simp [ints]] at ow; exact ow, fun g hg => Nat.le_trans K2.out.size (NR.out.ge g hg), (K2.out.no NR.out.kp).trans' kp5 (fun j hj e => by have := NR.out.ge j e; have := K2.out.size; omega)⟩)
          clear ow kp5
          go_wp2_with fail
          go_ret2
          exact .inr ⟨Q, A, q, by rw [HE.out, Q1.out], FS.out, by rw [Q1.out]; rfl, by rw [Q1.out]; exact N5.out⟩
end Go.Proofs.YtmipnicdlldjnaaGreatDoor

namespace Go.Proofs.YtmipnicdlldjnaaGreatDoor
set_option linter.unusedVariables false
set_option linter.unusedSimpArgs false
open Go.RowKit

set_option maxRecDepth 100000 in
theorem idxI_any {w : World} {v : Value} {l : List Int} (hv : Rd IK w v l) (x : Int) :
    Calls Tryz.prog 66 #[v, .int .i64 x] w fun e w' => ∃ i : Int, e = .returned (.int .i64 i) ∧ (0 ≤ i ↔ x ∈ l) ∧ Kp No w w' := by
  have hl := hv.lenI
  obtain ⟨A, c, rfl⟩ := hv.shape
  obtain ⟨n, hn⟩ : ∃ n, n = l.length := ⟨_, rfl⟩
  rw [← hn] at hv hl ⊢
  have H := Lib.hid hv; have HN := Lib.hid hn
  unfold maxLen at hl
  clear hv hn
  go_enter Tryz.func66, Tryz.ntmps66
  go_wp2_with fail
  go_loopg [8] (n + 1) (fun g_ iv wx => ∃ i : Nat, g_ = n + 1 - i ∧ iv = .int .i64 i ∧ i ≤ n ∧ (∀ y ∈ l.take i, y ≠ x) ∧ Kp No w wx)
  case atStart => exact ⟨0, rfl, rfl, by omega, by simp, Kp.refl _ _⟩
  case round =>
    obtain ⟨i, hg, rfl, hi, hno, kp⟩ := hrel
    have NO := Lib.hid hno; have KP := Lib.hid kp
    clear hno kp
    by_cases hlt : i < n
    · have hltI : (i : Int) < (n : Int) := by omega
      have hwi : IntKind.i64.wrap ((i : Int) + 1) = (i : Int) + 1 := IntWalk.i64_in _ (by omega)
      obtain ⟨y, hy⟩ : ∃ y, l[i]? = some y := ⟨_, List.getElem?_eq_getElem (by rw [← HN.out]; exact hlt)⟩
      rcases H.out with ⟨_, he⟩ | ⟨g, o, cap', hv, _⟩
      · have := HN.out; rw [he, List.length_nil] at this; omega
      simp only [Value.slice.injEq] at hv
      obtain ⟨rfl, hzz, rfl⟩ := hv
      clear hzz
      have hc := (H.out.kpNo KP.out).intAt hy
      have HY := Lib.hid hy
      clear hy hlt
      by_cases hxy : x = y
      · subst hxy
        go_wp2_with fail
        go_ret
        exact ⟨i, rfl, ⟨fun _ => List.mem_of_getElem? HY.out, fun _ => by omega⟩, KP.out⟩
      · have hb : (x == y) = false := by simpa using hxy
        have NO2 := Lib.hid (show ∀ z ∈ l.take (i + 1), z ≠ x from fun z hz => by
          rw [List.take_add_one, HY.out] at hz
          rcases List.mem_append.1 hz with h | h
          · exact NO.out z h
          · simp at h; subst h; exact fun e => hxy e.symm)
        clear hxy
        go_wp2_with fail
        go_roundg (n + 1 - (i + 1))
        case measure => omega
        case rel => exact ⟨i + 1, rfl, by go_num, by omega, NO2.out, KP.out⟩
    · obtain rfl : i = n := by omega
      have hd0 : ¬ (i : Int) < (i : Int) := by omega
      have NO2 := Lib.hid (show x ∉ l from fun h => by
        have := NO.out x (by rw [HN.out, List.take_length]; exact h)
        exact this rfl)
      clear hlt
      go_wp2_with fail
      go_ret
      exact ⟨-1, rfl, ⟨fun h => by omega, fun h => absurd h NO2.out⟩, KP.out⟩
set_option maxRecDepth 100000 in
theorem conI_any {w : World} {v : Value} {l : List Int} (hv : Rd IK w v l) (x : Int) (b : Bool) (hb : b = decide (x ∈ l)) :
    Calls Tryz.prog 46 #[v, .int .i64 x] w fun e w' => e = .returned (.bool b) ∧ Kp No w w' := by
  have HI := Lib.hid (idxI_any hv x)
  have HB := Lib.hid hb
  clear hv hb
  go_enter Tryz.func46, Tryz.ntmps46
  go_wp2_with fail
  refine HI.out.mono ?_
  rintro e w1 ⟨i, rfl, hi, kp⟩
  have HE := Lib.hid (show decide (0 ≤ i) = b by rw [HB.out, decide_eq_decide]; exact hi)
  have K1 := Lib.hid kp
  clear hi kp
  go_wp2_with fail
  go_ret
  exact ⟨by have := HE.out; simp at this ⊢; exact this, K1.out⟩
end Go.Proofs.YtmipnicdlldjnaaGreatDoor

namespace Go.Proofs.YtmipnicdlldjnaaGreatDoor
set_option linter.unusedVariables false
set_option linter.unusedSimpArgs false
open Go.RowKit

structure ActT where
  k : Nat
  c : Int
  p : Int
deriving DecidableEq
def AcK : Kd ActT := { sz := 3, enc := fun x => [.int .u8 (x.k : Int), .int .i64 x.c, .int .i64 x.p], len := fun _ => rfl, one := by intro a v hv; simp at hv; rcases hv with rfl | rfl | rfl <;> rfl, pos := by decide }
theorem elAc : ElT Tryz.prog 29 41 AcK 24 := ElT.of (z := .agg #[.int .u8 0, .int .i64 0, .int .i64 0]) (by kernel_rfl) (by kernel_rfl) rfl
theorem Rd.actAt {w : World} {l : List ActT} {g o n cap : Nat} (h : Rd AcK w (.slice (some ⟨g, o, none⟩) n cap) l) {i : Nat} {x : ActT} (hx : l[i]? = some x) :
    w.cell? ⟨g, o + i * 3, none⟩ = some (.int .u8 (x.k : Int)) ∧ w.cell? ⟨g, o + i * 3 + 1, none⟩ = some (.int .i64 x.c) ∧ w.cell? ⟨g, o + i * 3 + 2, none⟩ = some (.int .i64 x.p) ∧ w.cell? ⟨g, o + i * 3 + 1 + 1, none⟩ = some (.int .i64 x.p) :=
  ⟨h.at rfl hx (j := 0) rfl, h.at rfl hx (j := 1) rfl, h.at rfl hx (j := 2) rfl, h.at rfl hx (j := 2) rfl⟩
def ActT.val (x : ActT) : Value := .agg #[.int .u8 (x.k : Int), .int .i64 x.c, .int .i64 x.p]
/-- A robot that does acts. -/
structure WkS where
  at_ : Int
  pod : Int
  st : Bool
noncomputable def laneB (f : Flr) (c : Int) : Bool := (zoneP f c).isSome
/-- Can it go there? -/
noncomputable def goB (f : Flr) (d : Int) (s : WkS) (x : ActT) : Bool := decide (x.p = 0) && decide (x.c ∈ ints (nearP f s.at_)) && (laneB f x.c || decide (x.c = d))
/-- Can a pod be lifted or dropped there? -/
noncomputable def hereB (f : Flr) (s : WkS) (x : ActT) : Bool := decide (x.c = s.at_) && laneB f s.at_ && decide (0 ≤ x.p) && decide (x.p < 64)
def dropB (s : WkS) (x : ActT) : Bool := !(decide (s.pod < 0) && s.st) && !(decide (0 ≤ s.pod) && decide (s.pod ≠ x.p))
noncomputable def doesP (f : Flr) (d : Int) (s : WkS) (x : ActT) : Option WkS :=
  if x.k = 1 then (if goB f d s x = true then some ⟨x.c, s.pod, s.st⟩ else none)
  else if x.k = 2 then (if decide (s.pod < 0) = true ∧ hereB f s x = true then some ⟨s.at_, x.p, true⟩ else none)
  else if x.k = 3 then (if hereB f s x = true ∧ dropB s x = true then some ⟨s.at_, -1, true⟩ else none)
  else none
noncomputable def runP (f : Flr) (d : Int) : WkS → List ActT → Option WkS
  | s, [] => some s
  | s, x :: l => match doesP f d s x with | some s' => runP f d s' l | none => none
theorem runP_snoc (f : Flr) (d : Int) : ∀ (l : List ActT) (s : WkS) (x : ActT), runP f d s (l ++ [x]) = (runP f d s l).bind fun s' => doesP f d s' x := by
  intro l
  induction l with
  | nil => intro s x; rw [List.nil_append, runP, runP, Option.bind_some]; cases doesP f d s x with | none => rfl | some s' => (show runP f d s' [] = some s'; rw [runP])
  | cons y l ih =>
    intro s x
    rw [List.cons_append, runP, runP]
    cases doesP f d s y with
    | none => rfl
    | some s' => exact ih s' x
theorem runP_append (f : Flr) (d : Int) : ∀ (l m : List ActT) (s : WkS), runP f d s (l ++ m) = (runP f d s l).bind fun s' => runP f d s' m := by
  intro l
  induction l with
  | nil => intro m s; rfl
  | cons y l ih =>
    intro m s
    rw [List.cons_append, runP, runP]
    cases doesP f d s y with
    | none => rfl
    | some s' => exact ih m s'
theorem runP_at {f : Flr} {d : Int} {l : List ActT} {s : WkS} {k : Nat} {x : ActT} (hx : l[k]? = some x) : runP f d s (l.take (k + 1)) = (runP f d s (l.take k)).bind fun s' => doesP f d s' x := by
  rw [List.take_add_one, hx]
  exact runP_snoc _ _ _ _ _
theorem runP_no {f : Flr} {d : Int} {l : List ActT} {s : WkS} {k : Nat} (h : runP f d s (l.take k) = none) : runP f d s l = none := by
  rw [← List.take_append_drop k l, runP_append, h]; rfl
/-- Do acts bring a robot from a cell to its dock? -/
noncomputable def rightT (f : Flr) (robot at_ : Int) (l : List ActT) : Bool :=
  match dockP f robot with
  | none => false
  | some d => (laneB f at_ || decide (at_ = d)) && decide (l.length ≤ 1024) && (match runP f d ⟨at_, -1, false⟩ l with | none => false | some s => decide (s.at_ = d) && decide (s.pod < 0))
def costT (l : List ActT) : Nat := (l.filter fun x => decide (x.k = 1)).length
theorem costT_snoc {l : List ActT} {k : Nat} {x : ActT} (hx : l[k]? = some x) : costT (l.take (k + 1)) = costT (l.take k) + if x.k = 1 then 1 else 0 := by
  unfold costT
  rw [List.take_add_one, hx, List.filter_append]
  by_cases h : x.k = 1 <;> simp [h]
noncomputable def zoT (f : Flr) (x : ActT) : Option Int := if x.k = 1 then Option.map (fun z : Nat => (z : Int)) (zoneP f x.c) else none
/-- The zones of some acts, as they come. -/
noncomputable def zonesT (f : Flr) (l : List ActT) : List Int := l.filterMap (zoT f)
theorem zonesT_snoc {f : Flr} {l : List ActT} {k : Nat} {x : ActT} (hx : l[k]? = some x) : zonesT f (l.take (k + 1)) = zonesT f (l.take k) ++ (zoT f x).toList := by
  unfold zonesT
  rw [List.take_add_one, hx, List.filterMap_append]
  cases h : zoT f x <;> simp [List.filterMap_cons, h]
end Go.Proofs.YtmipnicdlldjnaaGreatDoor

namespace Go.Proofs.YtmipnicdlldjnaaGreatDoor
set_option linter.unusedVariables false
set_option linter.unusedSimpArgs false
open Go.RowKit

/-- The walker in memory. -/
def wkCells (f : Flr) (d : Int) (s : WkS) : Array Value := #[.int .i64 f.W, .int .i64 f.H, .string f.s, .int .i64 d, .int .i64 s.at_, .int .i64 s.pod, .bool s.st]
structure WkM (f : Flr) (d : Int) (s : WkS) (p : Nat) (w : World) : Prop where
  blk : w.heap[p]? = some (.cells #[.int .i64 f.W, .int .i64 f.H, .string f.s, .int .i64 d, .int .i64 s.at_, .int .i64 s.pod, .bool s.st] 57 (0, 0))
section
variable {f : Flr} {d : Int} {s : WkS} {p : Nat} {w w' : World}
theorem WkM.no (h : WkM f d s p w) (hk : Kp No w w') : WkM f d s p w' := ⟨hk.blk h.blk (no_no _)⟩
theorem WkM.cs (h : WkM f d s p w) : w.cell? ⟨p, 0, none⟩ = some (.int .i64 f.W) ∧ w.cell? ⟨p, 1, none⟩ = some (.int .i64 f.H) ∧ w.cell? ⟨p, 2, none⟩ = some (.string f.s) ∧ w.cell? ⟨p, 3, none⟩ = some (.int .i64 d) ∧ w.cell? ⟨p, 4, none⟩ = some (.int .i64 s.at_) ∧ w.cell? ⟨p, 5, none⟩ = some (.int .i64 s.pod) ∧ w.cell? ⟨p, 6, none⟩ = some (.bool s.st) :=
  ⟨blk_cell h.blk 0, blk_cell h.blk 1, blk_cell h.blk 2, blk_cell h.blk 3, blk_cell h.blk 4, blk_cell h.blk 5, blk_cell h.blk 6⟩
theorem WkM.fz (h : WkM f d s p w) (i : Nat) : w.frozen? ⟨p, i, none⟩ = false := blk_free h.blk i
end
set_option maxRecDepth 100000 in
theorem tplane_any {f : Flr} {d : Int} {s : WkS} {p : Nat} {w : World} (h : WkM f d s p w) (hsz : f.s.size ≤ 9223372036854775807) (c : Int) (hc : c ≤ 9223372036854775807) (b : Bool) (hb : laneB f c = b) :
    Calls Tryz.prog 26 #[.pointer (some ⟨p, 0, none⟩), .int .i64 c] w fun e w' => e = .returned (.bool b) ∧ Kp No w w' := by
  obtain ⟨Z, hZ⟩ : ∃ Z, zoneP f c = Z := ⟨_, rfl⟩
  obtain ⟨zi, hzi⟩ : ∃ zi : Nat, zi = Z.getD 0 := ⟨_, rfl⟩
  have HB := Lib.hid (show Z.isSome = b by rw [← hb]; unfold laneB; rw [hZ])
  have ZO := Lib.hid (show ∀ w, Calls Tryz.prog 19 #[f.val, .int .i64 c] w fun e w' => e = .returned (.tuple #[.int .i64 (zi : Int), .bool b]) ∧ Kp No w w' from fun w => by
    have h1 := zone_any f hsz c hc w
    have e : ZVal (zoneP f c) = .tuple #[.int .i64 (zi : Int), .bool b] := by unfold ZVal; rw [hZ, ← hzi, HB.out]
    rwa [e] at h1)
  obtain ⟨c0, c1, c2, c3, c4, c5, c6⟩ := h.cs
  obtain ⟨X, Y, q⟩ := f
  simp only at c0 c1 c2
  unfold Flr.val at ZO
  clear h hb hZ hzi hsz hc
  go_enter Tryz.func26, Tryz.ntmps26
  go_wp2_with fail
  refine (ZO.out _).mono ?_
  rintro e w1 ⟨rfl, k1⟩
  have K1 := Lib.hid k1
  clear k1
  go_wp2_with fail
  go_ret
  exact ⟨rfl, K1.out⟩
set_option maxRecDepth 100000 in
theorem tpCost_any {w : World} {v : Value} {l : List ActT} (hl : Rd AcK w v l) (hb : l.length ≤ 1000000) : Calls Tryz.prog 12 #[v] w fun e w' => e = .returned (.int .i64 (costT l : Int)) ∧ Kp No w w' := by
  obtain ⟨A, cap, rfl⟩ := hl.shape
  obtain ⟨n, hn⟩ : ∃ z, z = l.length := ⟨_, rfl⟩
  rw [← hn] at hl hb ⊢
  have HL := Lib.hid hl; have HN := Lib.hid hn
  clear hl hn
  go_enter Tryz.func12, Tryz.ntmps12
  go_wp2_with fail
  go_loopg [3, 8] (n + 1) (fun g_ cv iv wx => ∃ (i c : Nat), g_ = n + 1 - i ∧ iv = .int .i64 (i : Int) ∧ i ≤ n ∧ cv = .int .i64 (c : Int) ∧ c = costT (l.take i) ∧ c ≤ i ∧ Kp No w wx)
  case atStart => exact ⟨0, 0, rfl, rfl, by omega, rfl, rfl, by omega, Kp.refl _ _⟩
  case round =>
    obtain ⟨i, c, hg, rfl, hi, rfl, hcc, hci, kp⟩ := hrel
    have HC := Lib.hid hcc; have KP := Lib.hid kp
    clear hcc kp
    by_cases hlt : i < n
    · have hltI : (i : Int) < (n : Int) := by omega
      have hwi : IntKind.i64.wrap ((i : Int) + 1) = (i : Int) + 1 := IntWalk.i64_in _ (by omega)
      have hwc : IntKind.i64.wrap ((c : Int) + 1) = (c : Int) + 1 := IntWalk.i64_in _ (by omega)
      obtain ⟨x, hx⟩ : ∃ x, l[i]? = some x := ⟨_, List.getElem?_eq_getElem (by rw [← HN.out]; exact hlt)⟩
      rcases (HL.out.kpNo KP.out) with ⟨_, he⟩ | ⟨g, o, cap', hv, _⟩
      · have := HN.out; rw [he, List.length_nil] at this; omega
      simp only [Value.slice.injEq] at hv
      obtain ⟨rfl, hzz, rfl⟩ := hv
      obtain ⟨x0, x1, x2, x3⟩ := (HL.out.kpNo KP.out).actAt hx
      have HS := Lib.hid (costT_snoc hx)
      have K1 := Lib.hid (show ∀ o, Kp No w (wr.alloc o) from fun o => KP.out.alloc o)
      obtain ⟨b, hb1⟩ : ∃ b, ((x.k : Int) == 1) = b := ⟨_, rfl⟩
      have HB := Lib.hid hb1
      clear hx hzz hlt
      cases b with
      | true =>
        have hk : x.k = 1 := by have := HB.out; simp at this; omega
        go_wp2_with fail
        go_roundg (n + 1 - (i + 1))
        case measure => omega
        case rel => exact ⟨i + 1, c + 1, rfl, by go_num, by omega, by go_num, by rw [HS.out, if_pos hk, ← HC.out], by omega, K1.out _⟩
      | false =>
        have hk : ¬ x.k = 1 := by have := HB.out; simp at this; omega
        go_wp2_with fail
        go_roundg (n + 1 - (i + 1))
        case measure => omega
        case rel => exact ⟨i + 1, c, rfl, by go_num, by omega, rfl, by rw [HS.out, if_neg hk, ← HC.out]; rfl, by omega, K1.out _⟩
    · obtain rfl : n = i := by omega
      have hd0 : ¬ (n : Int) < (n : Int) := by omega
      have HE := Lib.hid (show costT l = c by rw [HC.out, HN.out, List.take_length])
      clear hlt
      go_wp2_with fail
      go_ret
      exact ⟨by rw [HE.out]; rfl, KP.out⟩
end Go.Proofs.YtmipnicdlldjnaaGreatDoor

namespace Go.Proofs.YtmipnicdlldjnaaGreatDoor
set_option linter.unusedVariables false
set_option linter.unusedSimpArgs false
open Go.RowKit

def DoesR (f : Flr) (d : Int) (s : WkS) (x : ActT) (p : Nat) (w : World) (e : Ending) (w' : World) : Prop :=
  ∃ b s', e = .returned (.bool b) ∧ WkM f d s' p w' ∧ Kp (fun k => k = p) w w' ∧ ((b = true ∧ doesP f d s x = some s') ∨ (b = false ∧ doesP f d s x = none ∧ s' = s))
theorem Kp.toP {p : Nat} {w w' : World} (h : Kp No w w') : Kp (fun k => k = p) w w' := h.mono fun k _ e => e.elim
set_option maxHeartbeats 4000000 in
set_option maxRecDepth 100000 in
theorem tpdoes_go {f : Flr} {d : Int} {s : WkS} {p : Nat} {w : World} (h : WkM f d s p w) (hsz : f.s.size ≤ 1000000) (hat : s.at_ ≤ 9223372036854775807) (c q : Int) (hc : c ≤ 9223372036854775807) :
    Calls Tryz.prog 27 #[.pointer (some ⟨p, 0, none⟩), .agg #[.int .u8 1, .int .i64 c, .int .i64 q]] w (DoesR f d s ⟨1, c, q⟩ p w) := by
  unfold DoesR
  have NE := Lib.hid (fun w => near_any f (by omega) s.at_ hat w)
  have LA := Lib.hid (fun wx (hk : WkM f d s p wx) b hb => tplane_any hk (by omega) c hc b hb)
  have LT := Lib.hid (fun wx (hk : WkM f d s p wx) b hb => tplane_any hk (by omega) s.at_ hat b hb)
  obtain ⟨F, hF⟩ : ∃ z, z = f := ⟨_, rfl⟩
  obtain ⟨T, hT⟩ : ∃ z, z = s := ⟨_, rfl⟩
  obtain ⟨P, hP⟩ : ∃ P, P = doesP f d s ⟨1, c, q⟩ := ⟨_, rfl⟩
  rw [← hP]
  unfold doesP at hP
  simp only [if_true, if_false, show ¬ ((2 : Nat) = 1) by decide, show ¬ ((3 : Nat) = 1) by decide, show ¬ ((3 : Nat) = 2) by decide] at hP
  obtain ⟨w1, hw1⟩ : ∃ y : World, y = w.alloc (.cells #[.int .u8 1, .int .i64 c, .int .i64 q] 41) := ⟨_, rfl⟩
  have KB := Lib.hid (show Kp No w w1 by rw [hw1]; exact (Kp.refl _ _).alloc _)
  have BX := Lib.hid (show w1.heap[w.heap.size]? = some (.cells #[.int .u8 1, .int .i64 c, .int .i64 q] 41 (0, 0)) by rw [hw1]; exact blk_new w _)
  have WK := Lib.hid (h.no KB.out)
  have WKx := Lib.hid (fun wx (hk : Kp No w1 wx) => WK.out.no hk)
  have LB := Lib.hid (fun wx (hk : Kp No w1 wx) => by
    obtain ⟨a0, a1, a2, a3, a4, a5, a6⟩ := (WK.out.no hk).cs
    have b := hk.blk BX.out (no_no _)
    have b0 := blk_cell b 0
    have b1 := blk_cell b 1
    have b2 := blk_cell b 2
    exact (⟨a0, a1, a2, a3, a4, a5, a6, b0, b1, b2⟩ : _ ∧ _ ∧ _ ∧ _ ∧ _ ∧ _ ∧ _ ∧ wx.cell? ⟨w.heap.size, 0, none⟩ = some (.int .u8 1) ∧ wx.cell? ⟨w.heap.size, 1, none⟩ = some (.int .i64 c) ∧ wx.cell? ⟨w.heap.size, 2, none⟩ = some (.int .i64 q)))
  have HW1 := Lib.hid hw1
  have HP := Lib.hid hP
  have FR := Lib.hid (fun wx (hk : Kp No w1 wx) i => (WK.out.no hk).fz i)
  have HT := Lib.hid hT
  clear hsz hat hc hw1 h hP
  obtain ⟨t, ht⟩ : ∃ t, t = decide (c ∈ ints (nearP f s.at_)) := ⟨_, rfl⟩
  have HTC := Lib.hid ht
  obtain ⟨bl, hbl⟩ : ∃ b, laneB f c = b := ⟨_, rfl⟩
  have HBL := Lib.hid hbl
  obtain ⟨ed, hed⟩ : ∃ b, (c != d) = b := ⟨_, rfl⟩
  obtain ⟨eq, heq⟩ : ∃ b, (q != 0) = b := ⟨_, rfl⟩
  have HGO := Lib.hid (show P = if (!eq && t && (bl || !ed)) = true then some ⟨c, s.pod, s.st⟩ else none by
    rw [HP.out, show goB f d s ⟨1, c, q⟩ = (!eq && t && (bl || !ed)) by unfold goB; simp only; rw [ht, hbl, ← hed, ← heq]; rw [show decide (q = 0) = !(q != 0) by by_cases h : q = 0 <;> simp [h], show decide (c = d) = !(c != d) by by_cases h : c = d <;> simp [h]]])
  clear ht hbl HP
  obtain ⟨X, Y, sb⟩ := f
  obtain ⟨ca, cp, cs⟩ := s
  simp only at *
  go_enter Tryz.func27, Tryz.ntmps27
  go_upto_region 1 with fail
  rw [← HW1.out]
  obtain ⟨c0, c1, c2, c3, c4, c5, c6, c7, c8, c9⟩ := LB.out w1 (Kp.refl _ _)
  go_upto_region 5 with fail
  obtain ⟨c0, c1, c2, c3, c4, c5, c6, c7, c8, c9⟩ := LB.out w1.drew ((Kp.refl _ _).drew)
  cases eq with
  | true =>
    go_quiet (fail)
    go_wp2_with fail
    go_ret
    exact ⟨false, _, rfl, WKx.out _ ((Kp.refl _ _).drewN _), (KB.out.no ((Kp.refl _ _).drewN _)).toP, Or.inr ⟨rfl, HGO.out, rfl⟩⟩
  | false =>
    cases t with
    | false =>
      refine wp_region_held_drew (S := (fun w' => w'.cell? ⟨p, 0, none⟩ = some (.int .i64 X) ∧ w'.cell? ⟨p, 1, none⟩ = some (.int .i64 Y) ∧ w'.cell? ⟨p, 2, none⟩ = some (.string sb) ∧ w'.cell? ⟨p, 3, none⟩ = some (.int .i64 d) ∧ w'.cell? ⟨p, 4, none⟩ = some (.int .i64 ca) ∧ w'.cell? ⟨p, 5, none⟩ = some (.int .i64 cp) ∧ w'.cell? ⟨p, 6, none⟩ = some (.bool cs) ∧ w'.cell? ⟨w.heap.size, 0, none⟩ = some (.int .u8 1) ∧ w'.cell? ⟨w.heap.size, 1, none⟩ = some (.int .i64 c) ∧ w'.cell? ⟨w.heap.size, 2, none⟩ = some (.int .i64 q))) (by kernel_rfl) ?_ (fun hHeld => ?_)
      case refine_1 => exact ⟨by assumption, by assumption, by assumption, by assumption, by assumption, by assumption, by assumption, by assumption, by assumption, by assumption⟩
      refine takeH (i := 0) (v := ?v0) rfl (by kernel_rfl) (by kernel_rfl) (by kernel_rfl) (fun _ _ _ h => h) (Or.inl ⟨by rfl, ?y0⟩) (by assumption) ?_
      case y0 => (intro w hSw; (try dsimp only at hSw); go_simp; try with_reducible rfl)
      try simp only [Act.put, List.setIfInBounds_toArray, List.set_cons_zero, List.set_cons_succ]
      refine takeH (i := 1) (v := ?v1) rfl (by kernel_rfl) (by kernel_rfl) (by kernel_rfl) (fun _ _ _ h => h) (Or.inl ⟨by rfl, ?y1⟩) (by assumption) ?_
      case y1 => (intro w hSw; (try dsimp only at hSw); go_simp; try with_reducible rfl)
      try simp only [Act.put, List.setIfInBounds_toArray, List.set_cons_zero, List.set_cons_succ]
      refine takeH (i := 2) (v := ?v2) rfl (by kernel_rfl) (by kernel_rfl) (by kernel_rfl) (fun _ _ _ h => h) (Or.inl ⟨by rfl, ?y2⟩) (by assumption) ?_
      case y2 => (intro w hSw; (try dsimp only at hSw); go_simp; try with_reducible rfl)
      try simp only [Act.put, List.setIfInBounds_toArray, List.set_cons_zero, List.set_cons_succ]
      refine takeH (i := 3) (v := ?v3) rfl (by kernel_rfl) (by kernel_rfl) (by kernel_rfl) (fun _ _ _ h => h) (Or.inl ⟨by rfl, ?y3⟩) (by assumption) ?_
      case y3 => (intro w hSw; (try dsimp only at hSw); go_simp; try with_reducible rfl)
      try simp only [Act.put, List.setIfInBounds_toArray, List.set_cons_zero, List.set_cons_succ]
      refine takeH (i := 4) (v := ?v4) rfl (by kernel_rfl) (by kernel_rfl) (by kernel_rfl) (fun _ _ _ h => h) (Or.inl ⟨by rfl, ?y4⟩) (by assumption) ?_
      case y4 => (intro w hSw; (try dsimp only at hSw); go_simp; try with_reducible rfl)
      try simp only [Act.put, List.setIfInBounds_toArray, List.set_cons_zero, List.set_cons_succ]
      refine takeH (i := 5) (v := ?v5) rfl (by kernel_rfl) (by kernel_rfl) (by kernel_rfl) (fun _ _ _ h => h) (Or.inl ⟨by rfl, ?y5⟩) (by assumption) ?_
      case y5 => (intro w hSw; (try dsimp only at hSw); go_simp; try with_reducible rfl)
      try simp only [Act.put, List.setIfInBounds_toArray, List.set_cons_zero, List.set_cons_succ]
      refine takeH (i := 6) (v := ?v6) rfl (by kernel_rfl) (by kernel_rfl) (by kernel_rfl) (fun _ _ _ h => h) (Or.inl ⟨by rfl, ?y6⟩) (by assumption) ?_
      case y6 => (intro w hSw; (try dsimp only at hSw); go_simp; try with_reducible rfl)
      try simp only [Act.put, List.setIfInBounds_toArray, List.set_cons_zero, List.set_cons_succ]
      refine takeH (i := 7) (v := ?v7) rfl (by kernel_rfl) (by kernel_rfl) (by kernel_rfl) (fun _ _ _ h => h) (Or.inl ⟨by rfl, ?y7⟩) (by assumption) ?_
      case y7 => (intro w hSw; (try dsimp only at hSw); go_simp; try with_reducible rfl)
      try simp only [Act.put, List.setIfInBounds_toArray, List.set_cons_zero, List.set_cons_succ]
      refine takeH (i := 8) (v := ?v8) rfl (by kernel_rfl) (by kernel_rfl) (by kernel_rfl) (fun _ _ _ h => h) (Or.inl ⟨by rfl, ?y8⟩) (by assumption) ?_
      case y8 => (intro w hSw; (try dsimp only at hSw); go_simp; try with_reducible rfl)
      try simp only [Act.put, List.setIfInBounds_toArray, List.set_cons_zero, List.set_cons_succ]
      refine takeH (i := 9) (v := ?v9) rfl (by kernel_rfl) (by kernel_rfl) (by kernel_rfl) (fun _ _ _ h => h) (Or.inl ⟨by rfl, ?y9⟩) (by assumption) ?_
      case y9 => (intro w hSw; (try dsimp only at hSw); go_simp; try with_reducible rfl)
      try simp only [Act.put, List.setIfInBounds_toArray, List.set_cons_zero, List.set_cons_succ]
      refine takeH (i := 10) (v := ?v10) rfl (by kernel_rfl) (by kernel_rfl) (by kernel_rfl) (fun _ _ _ h => h) (Or.inl ⟨by rfl, ?y10⟩) (by assumption) ?_
      case y10 => (intro w hSw; (try dsimp only at hSw); go_simp; try with_reducible rfl)
      try simp only [Act.put, List.setIfInBounds_toArray, List.set_cons_zero, List.set_cons_succ]
      refine takeH (i := 11) (v := ?v11) rfl (by kernel_rfl) (by kernel_rfl) (by kernel_rfl) (fun _ _ _ h => h) (Or.inl ⟨by rfl, ?y11⟩) (by assumption) ?_
      case y11 => (intro w hSw; (try dsimp only at hSw); go_simp; try with_reducible rfl)
      try simp only [Act.put, List.setIfInBounds_toArray, List.set_cons_zero, List.set_cons_succ]
      refine takeH (i := 13) (v := ?v13) rfl (by kernel_rfl) (by kernel_rfl) (by kernel_rfl) (fun _ _ _ h => h) (Or.inl ⟨by rfl, ?y13⟩) (by assumption) ?_
      case y13 => (intro w hSw; (try dsimp only at hSw); go_simp; try with_reducible rfl)
      try simp only [Act.put, List.setIfInBounds_toArray, List.set_cons_zero, List.set_cons_succ]
      refine takeH (i := 14) (v := ?v14) rfl (by kernel_rfl) (by kernel_rfl) (by kernel_rfl) (fun _ _ _ h => h) (Or.inl ⟨by rfl, ?y14⟩) (by assumption) ?_
      case y14 => (intro w hSw; (try dsimp only at hSw); go_simp; try with_reducible rfl)
      try simp only [Act.put, List.setIfInBounds_toArray, List.set_cons_zero, List.set_cons_succ]
      refine wpAnyH_ready (rs := [12]) (by kernel_rfl) (by simp) ?_
      refine consH rfl (fun K hK => ?_) AllReadyH.nil
      go_simp
      (go_at_call 47; refine (NE.out _).mono ?_; rintro e y1 ⟨v1, rfl, n1⟩; have Y1 := Lib.hid ((Kp.refl No w1).drew.no n1.kp); have CO := Lib.hid (conI_any n1.own.rd c _ HTC.out); obtain ⟨d0, d1, d2, d3, d4, d5, d6, d7, d8, d9⟩ := LB.out y1 (Y1.out); clear n1)
      try go_wp2_with fail
      refine hK.out _ _ ?_ (fun hHeld => ?_)
      case refine_1 => exact ⟨by assumption, by assumption, by assumption, by assumption, by assumption, by assumption, by assumption, by assumption, by assumption, by assumption⟩
      clear hK K
      try simp only [Act.put, List.setIfInBounds_toArray, List.set_cons_zero, List.set_cons_succ]
      refine wpAnyH_ready (rs := [15]) (by kernel_rfl) (by simp) ?_
      refine consH rfl (fun K hK => ?_) AllReadyH.nil
      go_simp
      (go_at_call 46; refine CO.out.mono ?_; rintro e y2 ⟨rfl, k2⟩; have Y2 := Lib.hid (Y1.out.no k2); obtain ⟨e0, e1, e2, e3, e4, e5, e6, e7, e8, e9⟩ := LB.out y2 (Y2.out); clear k2)
      try go_wp2_with fail
      refine hK.out _ _ ?_ (fun hHeld => ?_)
      case refine_1 => exact ⟨by assumption, by assumption, by assumption, by assumption, by assumption, by assumption, by assumption, by assumption, by assumption, by assumption⟩
      clear hK K
      try simp only [Act.put, List.setIfInBounds_toArray, List.set_cons_zero, List.set_cons_succ]
      refine takeH (i := 16) (v := ?v16) rfl (by kernel_rfl) (by kernel_rfl) (by kernel_rfl) (fun _ _ _ h => h) (Or.inl ⟨by rfl, ?y16⟩) (by assumption) ?_
      case y16 => (intro w hSw; (try dsimp only at hSw); go_simp; try with_reducible rfl)
      try simp only [Act.put, List.setIfInBounds_toArray, List.set_cons_zero, List.set_cons_succ]
      refine takeH (i := 17) (v := ?v17) rfl (by kernel_rfl) (by kernel_rfl) (by kernel_rfl) (fun _ _ _ h => h) (Or.inl ⟨by rfl, ?y17⟩) (by assumption) ?_
      case y17 => (intro w hSw; (try dsimp only at hSw); go_simp; try with_reducible rfl)
      try simp only [Act.put, List.setIfInBounds_toArray, List.set_cons_zero, List.set_cons_succ]
      refine takeH (i := 18) (v := ?v18) rfl (by kernel_rfl) (by kernel_rfl) (by kernel_rfl) (fun _ _ _ h => h) (Or.inl ⟨by rfl, ?y18⟩) (by assumption) ?_
      case y18 => (intro w hSw; (try dsimp only at hSw); go_simp; try with_reducible rfl)
      try simp only [Act.put, List.setIfInBounds_toArray, List.set_cons_zero, List.set_cons_succ]
      refine takeH (i := 19) (v := undef) rfl (by kernel_rfl) (by kernel_rfl) (by kernel_rfl) (fun _ _ _ h => h) (Or.inr ⟨by rfl, rfl⟩) (by assumption) ?_
      try simp only [Act.put, List.setIfInBounds_toArray, List.set_cons_zero, List.set_cons_succ]
      refine takeH (i := 20) (v := undef) rfl (by kernel_rfl) (by kernel_rfl) (by kernel_rfl) (fun _ _ _ h => h) (Or.inr ⟨by rfl, rfl⟩) (by assumption) ?_
      try simp only [Act.put, List.setIfInBounds_toArray, List.set_cons_zero, List.set_cons_succ]
      refine takeH (i := 21) (v := undef) rfl (by kernel_rfl) (by kernel_rfl) (by kernel_rfl) (fun _ _ _ h => h) (Or.inr ⟨by rfl, rfl⟩) (by assumption) ?_
      try simp only [Act.put, List.setIfInBounds_toArray, List.set_cons_zero, List.set_cons_succ]
      refine takeH (i := 22) (v := undef) rfl (by kernel_rfl) (by kernel_rfl) (by kernel_rfl) (fun _ _ _ h => h) (Or.inr ⟨by rfl, rfl⟩) (by assumption) ?_
      try simp only [Act.put, List.setIfInBounds_toArray, List.set_cons_zero, List.set_cons_succ]
      refine takeH (i := 23) (v := undef) rfl (by kernel_rfl) (by kernel_rfl) (by kernel_rfl) (fun _ _ _ h => h) (Or.inr ⟨by rfl, rfl⟩) (by assumption) ?_
      try simp only [Act.put, List.setIfInBounds_toArray, List.set_cons_zero, List.set_cons_succ]
      refine takeH (i := 24) (v := undef) rfl (by kernel_rfl) (by kernel_rfl) (by kernel_rfl) (fun _ _ _ h => h) (Or.inr ⟨by rfl, rfl⟩) (by assumption) ?_
      try simp only [Act.put, List.setIfInBounds_toArray, List.set_cons_zero, List.set_cons_succ]
      refine takeH (i := 25) (v := undef) rfl (by kernel_rfl) (by kernel_rfl) (by kernel_rfl) (fun _ _ _ h => h) (Or.inr ⟨by rfl, rfl⟩) (by assumption) ?_
      try simp only [Act.put, List.setIfInBounds_toArray, List.set_cons_zero, List.set_cons_succ]
      refine takeH (i := 26) (v := undef) rfl (by kernel_rfl) (by kernel_rfl) (by kernel_rfl) (fun _ _ _ h => h) (Or.inr ⟨by rfl, rfl⟩) (by assumption) ?_
      try simp only [Act.put, List.setIfInBounds_toArray, List.set_cons_zero, List.set_cons_succ]
      refine takeH (i := 27) (v := undef) rfl (by kernel_rfl) (by kernel_rfl) (by kernel_rfl) (fun _ _ _ h => h) (Or.inr ⟨by rfl, rfl⟩) (by assumption) ?_
      try simp only [Act.put, List.setIfInBounds_toArray, List.set_cons_zero, List.set_cons_succ]
      refine takeH (i := 28) (v := undef) rfl (by kernel_rfl) (by kernel_rfl) (by kernel_rfl) (fun _ _ _ h => h) (Or.inr ⟨by rfl, rfl⟩) (by assumption) ?_
      try simp only [Act.put, List.setIfInBounds_toArray, List.set_cons_zero, List.set_cons_succ]
      refine takeH (i := 29) (v := undef) rfl (by kernel_rfl) (by kernel_rfl) (by kernel_rfl) (fun _ _ _ h => h) (Or.inr ⟨by rfl, rfl⟩) (by assumption) ?_
      try simp only [Act.put, List.setIfInBounds_toArray, List.set_cons_zero, List.set_cons_succ]
      refine takeH (i := 30) (v := undef) rfl (by kernel_rfl) (by kernel_rfl) (by kernel_rfl) (fun _ _ _ h => h) (Or.inr ⟨by rfl, rfl⟩) (by assumption) ?_
      try simp only [Act.put, List.setIfInBounds_toArray, List.set_cons_zero, List.set_cons_succ]
      refine takeH (i := 31) (v := undef) rfl (by kernel_rfl) (by kernel_rfl) (by kernel_rfl) (fun _ _ _ h => h) (Or.inr ⟨by rfl, rfl⟩) (by assumption) ?_
      try simp only [Act.put, List.setIfInBounds_toArray, List.set_cons_zero, List.set_cons_succ]
      refine takeH (i := 32) (v := undef) rfl (by kernel_rfl) (by kernel_rfl) (by kernel_rfl) (fun _ _ _ h => h) (Or.inr ⟨by rfl, rfl⟩) (by assumption) ?_
      try simp only [Act.put, List.setIfInBounds_toArray, List.set_cons_zero, List.set_cons_succ]
      refine takeH (i := 33) (v := ?v33) rfl (by kernel_rfl) (by kernel_rfl) (by kernel_rfl) (fun _ _ _ h => h) (Or.inl ⟨by rfl, ?y33⟩) (by assumption) ?_
      case y33 => (intro w hSw; (try dsimp only at hSw); go_simp; try with_reducible rfl)
      try simp only [Act.put, List.setIfInBounds_toArray, List.set_cons_zero, List.set_cons_succ]
      refine wpAnyH_done (by kernel_rfl) ?_ _
      go_wp2_with fail
      go_ret
      exact ⟨false, _, rfl, WKx.out _ Y2.out, (KB.out.no Y2.out).toP, Or.inr ⟨rfl, HGO.out, rfl⟩⟩
    | true =>
      cases bl with
      | true =>
        refine wp_region_held_drew (S := (fun w' => w'.cell? ⟨p, 0, none⟩ = some (.int .i64 X) ∧ w'.cell? ⟨p, 1, none⟩ = some (.int .i64 Y) ∧ w'.cell? ⟨p, 2, none⟩ = some (.string sb) ∧ w'.cell? ⟨p, 3, none⟩ = some (.int .i64 d) ∧ w'.cell? ⟨p, 4, none⟩ = some (.int .i64 ca) ∧ w'.cell? ⟨p, 5, none⟩ = some (.int .i64 cp) ∧ w'.cell? ⟨p, 6, none⟩ = some (.bool cs) ∧ w'.cell? ⟨w.heap.size, 0, none⟩ = some (.int .u8 1) ∧ w'.cell? ⟨w.heap.size, 1, none⟩ = some (.int .i64 c) ∧ w'.cell? ⟨w.heap.size, 2, none⟩ = some (.int .i64 q))) (by kernel_rfl) ?_ (fun hHeld => ?_)
        case refine_1 => exact ⟨by assumption, by assumption, by assumption, by assumption, by assumption, by assumption, by assumption, by assumption, by assumption, by assumption⟩
        refine takeH (i := 0) (v := ?v0) rfl (by kernel_rfl) (by kernel_rfl) (by kernel_rfl) (fun _ _ _ h => h) (Or.inl ⟨by rfl, ?y0⟩) (by assumption) ?_
        case y0 => (intro w hSw; (try dsimp only at hSw); go_simp; try with_reducible rfl)
        try simp only [Act.put, List.setIfInBounds_toArray, List.set_cons_zero, List.set_cons_succ]
        refine takeH (i := 1) (v := ?v1) rfl (by kernel_rfl) (by kernel_rfl) (by kernel_rfl) (fun _ _ _ h => h) (Or.inl ⟨by rfl, ?y1⟩) (by assumption) ?_
        case y1 => (intro w hSw; (try dsimp only at hSw); go_simp; try with_reducible rfl)
        try simp only [Act.put, List.setIfInBounds_toArray, List.set_cons_zero, List.set_cons_succ]
        refine takeH (i := 2) (v := ?v2) rfl (by kernel_rfl) (by kernel_rfl) (by kernel_rfl) (fun _ _ _ h => h) (Or.inl ⟨by rfl, ?y2⟩) (by assumption) ?_
        case y2 => (intro w hSw; (try dsimp only at hSw); go_simp; try with_reducible rfl)
        try simp only [Act.put, List.setIfInBounds_toArray, List.set_cons_zero, List.set_cons_succ]
        refine takeH (i := 3) (v := ?v3) rfl (by kernel_rfl) (by kernel_rfl) (by kernel_rfl) (fun _ _ _ h => h) (Or.inl ⟨by rfl, ?y3⟩) (by assumption) ?_
        case y3 => (intro w hSw; (try dsimp only at hSw); go_simp; try with_reducible rfl)
        try simp only [Act.put, List.setIfInBounds_toArray, List.set_cons_zero, List.set_cons_succ]
        refine takeH (i := 4) (v := ?v4) rfl (by kernel_rfl) (by kernel_rfl) (by kernel_rfl) (fun _ _ _ h => h) (Or.inl ⟨by rfl, ?y4⟩) (by assumption) ?_
        case y4 => (intro w hSw; (try dsimp only at hSw); go_simp; try with_reducible rfl)
        try simp only [Act.put, List.setIfInBounds_toArray, List.set_cons_zero, List.set_cons_succ]
        refine takeH (i := 5) (v := ?v5) rfl (by kernel_rfl) (by kernel_rfl) (by kernel_rfl) (fun _ _ _ h => h) (Or.inl ⟨by rfl, ?y5⟩) (by assumption) ?_
        case y5 => (intro w hSw; (try dsimp only at hSw); go_simp; try with_reducible rfl)
        try simp only [Act.put, List.setIfInBounds_toArray, List.set_cons_zero, List.set_cons_succ]
        refine takeH (i := 6) (v := ?v6) rfl (by kernel_rfl) (by kernel_rfl) (by kernel_rfl) (fun _ _ _ h => h) (Or.inl ⟨by rfl, ?y6⟩) (by assumption) ?_
        case y6 => (intro w hSw; (try dsimp only at hSw); go_simp; try with_reducible rfl)
        try simp only [Act.put, List.setIfInBounds_toArray, List.set_cons_zero, List.set_cons_succ]
        refine takeH (i := 7) (v := ?v7) rfl (by kernel_rfl) (by kernel_rfl) (by kernel_rfl) (fun _ _ _ h => h) (Or.inl ⟨by rfl, ?y7⟩) (by assumption) ?_
        case y7 => (intro w hSw; (try dsimp only at hSw); go_simp; try with_reducible rfl)
        try simp only [Act.put, List.setIfInBounds_toArray, List.set_cons_zero, List.set_cons_succ]
        refine takeH (i := 8) (v := ?v8) rfl (by kernel_rfl) (by kernel_rfl) (by kernel_rfl) (fun _ _ _ h => h) (Or.inl ⟨by rfl, ?y8⟩) (by assumption) ?_
        case y8 => (intro w hSw; (try dsimp only at hSw); go_simp; try with_reducible rfl)
        try simp only [Act.put, List.setIfInBounds_toArray, List.set_cons_zero, List.set_cons_succ]
        refine takeH (i := 9) (v := ?v9) rfl (by kernel_rfl) (by kernel_rfl) (by kernel_rfl) (fun _ _ _ h => h) (Or.inl ⟨by rfl, ?y9⟩) (by assumption) ?_
        case y9 => (intro w hSw; (try dsimp only at hSw); go_simp; try with_reducible rfl)
        try simp only [Act.put, List.setIfInBounds_toArray, List.set_cons_zero, List.set_cons_succ]
        refine takeH (i := 10) (v := ?v10) rfl (by kernel_rfl) (by kernel_rfl) (by kernel_rfl) (fun _ _ _ h => h) (Or.inl ⟨by rfl, ?y10⟩) (by assumption) ?_
        case y10 => (intro w hSw; (try dsimp only at hSw); go_simp; try with_reducible rfl)
        try simp only [Act.put, List.setIfInBounds_toArray, List.set_cons_zero, List.set_cons_succ]
        refine takeH (i := 11) (v := ?v11) rfl (by kernel_rfl) (by kernel_rfl) (by kernel_rfl) (fun _ _ _ h => h) (Or.inl ⟨by rfl, ?y11⟩) (by assumption) ?_
        case y11 => (intro w hSw; (try dsimp only at hSw); go_simp; try with_reducible rfl)
        try simp only [Act.put, List.setIfInBounds_toArray, List.set_cons_zero, List.set_cons_succ]
        refine takeH (i := 13) (v := ?v13) rfl (by kernel_rfl) (by kernel_rfl) (by kernel_rfl) (fun _ _ _ h => h) (Or.inl ⟨by rfl, ?y13⟩) (by assumption) ?_
        case y13 => (intro w hSw; (try dsimp only at hSw); go_simp; try with_reducible rfl)
        try simp only [Act.put, List.setIfInBounds_toArray, List.set_cons_zero, List.set_cons_succ]
        refine takeH (i := 14) (v := ?v14) rfl (by kernel_rfl) (by kernel_rfl) (by kernel_rfl) (fun _ _ _ h => h) (Or.inl ⟨by rfl, ?y14⟩) (by assumption) ?_
        case y14 => (intro w hSw; (try dsimp only at hSw); go_simp; try with_reducible rfl)
        try simp only [Act.put, List.setIfInBounds_toArray, List.set_cons_zero, List.set_cons_succ]
        refine wpAnyH_ready (rs := [12]) (by kernel_rfl) (by simp) ?_
        refine consH rfl (fun K hK => ?_) AllReadyH.nil
        go_simp
        (go_at_call 47; refine (NE.out _).mono ?_; rintro e y1 ⟨v1, rfl, n1⟩; have Y1 := Lib.hid ((Kp.refl No w1).drew.no n1.kp); have CO := Lib.hid (conI_any n1.own.rd c _ HTC.out); obtain ⟨d0, d1, d2, d3, d4, d5, d6, d7, d8, d9⟩ := LB.out y1 (Y1.out); clear n1)
        try go_wp2_with fail
        refine hK.out _ _ ?_ (fun hHeld => ?_)
        case refine_1 => exact ⟨by assumption, by assumption, by assumption, by assumption, by assumption, by assumption, by assumption, by assumption, by assumption, by assumption⟩
        clear hK K
        try simp only [Act.put, List.setIfInBounds_toArray, List.set_cons_zero, List.set_cons_succ]
        refine wpAnyH_ready (rs := [15]) (by kernel_rfl) (by simp) ?_
        refine consH rfl (fun K hK => ?_) AllReadyH.nil
        go_simp
        (go_at_call 46; refine CO.out.mono ?_; rintro e y2 ⟨rfl, k2⟩; have Y2 := Lib.hid (Y1.out.no k2); obtain ⟨e0, e1, e2, e3, e4, e5, e6, e7, e8, e9⟩ := LB.out y2 (Y2.out); clear k2)
        try go_wp2_with fail
        refine hK.out _ _ ?_ (fun hHeld => ?_)
        case refine_1 => exact ⟨by assumption, by assumption, by assumption, by assumption, by assumption, by assumption, by assumption, by assumption, by assumption, by assumption⟩
        clear hK K
        try simp only [Act.put, List.setIfInBounds_toArray, List.set_cons_zero, List.set_cons_succ]
        refine takeH (i := 16) (v := .bool false) rfl (by kernel_rfl) (by kernel_rfl) (by kernel_rfl) (fun _ _ _ h => h) (Or.inl ⟨by rfl, ?y16⟩) (by assumption) ?_
        case y16 => (intro w hSw; (try dsimp only at hSw); go_simp; try with_reducible rfl)
        try simp only [Act.put, List.setIfInBounds_toArray, List.set_cons_zero, List.set_cons_succ]
        refine takeH (i := 17) (v := .bool false) rfl (by kernel_rfl) (by kernel_rfl) (by kernel_rfl) (fun _ _ _ h => h) (Or.inl ⟨by rfl, ?y17⟩) (by assumption) ?_
        case y17 => (intro w hSw; (try dsimp only at hSw); go_simp; try with_reducible rfl)
        try simp only [Act.put, List.setIfInBounds_toArray, List.set_cons_zero, List.set_cons_succ]
        refine takeH (i := 18) (v := .bool false) rfl (by kernel_rfl) (by kernel_rfl) (by kernel_rfl) (fun _ _ _ h => h) (Or.inl ⟨by rfl, ?y18⟩) (by assumption) ?_
        case y18 => (intro w hSw; (try dsimp only at hSw); go_simp; try with_reducible rfl)
        try simp only [Act.put, List.setIfInBounds_toArray, List.set_cons_zero, List.set_cons_succ]
        refine takeH (i := 19) (v := ?v19) rfl (by kernel_rfl) (by kernel_rfl) (by kernel_rfl) (fun _ _ _ h => h) (Or.inl ⟨by rfl, ?y19⟩) (by assumption) ?_
        case y19 => (intro w hSw; (try dsimp only at hSw); go_simp; try with_reducible rfl)
        try simp only [Act.put, List.setIfInBounds_toArray, List.set_cons_zero, List.set_cons_succ]
        refine takeH (i := 20) (v := ?v20) rfl (by kernel_rfl) (by kernel_rfl) (by kernel_rfl) (fun _ _ _ h => h) (Or.inl ⟨by rfl, ?y20⟩) (by assumption) ?_
        case y20 => (intro w hSw; (try dsimp only at hSw); go_simp; try with_reducible rfl)
        try simp only [Act.put, List.setIfInBounds_toArray, List.set_cons_zero, List.set_cons_succ]
        refine takeH (i := 21) (v := ?v21) rfl (by kernel_rfl) (by kernel_rfl) (by kernel_rfl) (fun _ _ _ h => h) (Or.inl ⟨by rfl, ?y21⟩) (by assumption) ?_
        case y21 => (intro w hSw; (try dsimp only at hSw); go_simp; try with_reducible rfl)
        try simp only [Act.put, List.setIfInBounds_toArray, List.set_cons_zero, List.set_cons_succ]
        refine wpAnyH_ready (rs := [22]) (by kernel_rfl) (by simp) ?_
        refine consH rfl (fun K hK => ?_) AllReadyH.nil
        go_simp
        (go_at_call 26; refine (LA.out _ (WKx.out _ Y2.out) _ HBL.out).mono ?_; rintro e y3 ⟨rfl, k3⟩; have Y3 := Lib.hid (Y2.out.no k3); obtain ⟨g0, g1, g2, g3, g4, g5, g6, g7, g8, g9⟩ := LB.out y3 (Y3.out); clear k3)
        try go_wp2_with fail
        refine hK.out _ _ ?_ (fun hHeld => ?_)
        case refine_1 => exact ⟨by assumption, by assumption, by assumption, by assumption, by assumption, by assumption, by assumption, by assumption, by assumption, by assumption⟩
        clear hK K
        try simp only [Act.put, List.setIfInBounds_toArray, List.set_cons_zero, List.set_cons_succ]
        refine takeH (i := 23) (v := .bool false) rfl (by kernel_rfl) (by kernel_rfl) (by kernel_rfl) (fun _ _ _ h => h) (Or.inl ⟨by rfl, ?y23⟩) (by assumption) ?_
        case y23 => (intro w hSw; (try dsimp only at hSw); go_simp; try with_reducible rfl)
        try simp only [Act.put, List.setIfInBounds_toArray, List.set_cons_zero, List.set_cons_succ]
        refine takeH (i := 24) (v := .bool false) rfl (by kernel_rfl) (by kernel_rfl) (by kernel_rfl) (fun _ _ _ h => h) (Or.inl ⟨by rfl, ?y24⟩) (by assumption) ?_
        case y24 => (intro w hSw; (try dsimp only at hSw); go_simp; try with_reducible rfl)
        try simp only [Act.put, List.setIfInBounds_toArray, List.set_cons_zero, List.set_cons_succ]
        refine takeH (i := 25) (v := undef) rfl (by kernel_rfl) (by kernel_rfl) (by kernel_rfl) (fun _ _ _ h => h) (Or.inr ⟨by rfl, rfl⟩) (by assumption) ?_
        try simp only [Act.put, List.setIfInBounds_toArray, List.set_cons_zero, List.set_cons_succ]
        refine takeH (i := 26) (v := undef) rfl (by kernel_rfl) (by kernel_rfl) (by kernel_rfl) (fun _ _ _ h => h) (Or.inr ⟨by rfl, rfl⟩) (by assumption) ?_
        try simp only [Act.put, List.setIfInBounds_toArray, List.set_cons_zero, List.set_cons_succ]
        refine takeH (i := 27) (v := undef) rfl (by kernel_rfl) (by kernel_rfl) (by kernel_rfl) (fun _ _ _ h => h) (Or.inr ⟨by rfl, rfl⟩) (by assumption) ?_
        try simp only [Act.put, List.setIfInBounds_toArray, List.set_cons_zero, List.set_cons_succ]
        refine takeH (i := 28) (v := undef) rfl (by kernel_rfl) (by kernel_rfl) (by kernel_rfl) (fun _ _ _ h => h) (Or.inr ⟨by rfl, rfl⟩) (by assumption) ?_
        try simp only [Act.put, List.setIfInBounds_toArray, List.set_cons_zero, List.set_cons_succ]
        refine takeH (i := 29) (v := undef) rfl (by kernel_rfl) (by kernel_rfl) (by kernel_rfl) (fun _ _ _ h => h) (Or.inr ⟨by rfl, rfl⟩) (by assumption) ?_
        try simp only [Act.put, List.setIfInBounds_toArray, List.set_cons_zero, List.set_cons_succ]
        refine takeH (i := 30) (v := undef) rfl (by kernel_rfl) (by kernel_rfl) (by kernel_rfl) (fun _ _ _ h => h) (Or.inr ⟨by rfl, rfl⟩) (by assumption) ?_
        try simp only [Act.put, List.setIfInBounds_toArray, List.set_cons_zero, List.set_cons_succ]
        refine takeH (i := 31) (v := undef) rfl (by kernel_rfl) (by kernel_rfl) (by kernel_rfl) (fun _ _ _ h => h) (Or.inr ⟨by rfl, rfl⟩) (by assumption) ?_
        try simp only [Act.put, List.setIfInBounds_toArray, List.set_cons_zero, List.set_cons_succ]
        refine takeH (i := 32) (v := .bool false) rfl (by kernel_rfl) (by kernel_rfl) (by kernel_rfl) (fun _ _ _ h => h) (Or.inl ⟨by rfl, ?y32⟩) (by assumption) ?_
        case y32 => (intro w hSw; (try dsimp only at hSw); go_simp; try with_reducible rfl)
        try simp only [Act.put, List.setIfInBounds_toArray, List.set_cons_zero, List.set_cons_succ]
        refine takeH (i := 33) (v := .bool false) rfl (by kernel_rfl) (by kernel_rfl) (by kernel_rfl) (fun _ _ _ h => h) (Or.inl ⟨by rfl, ?y33⟩) (by assumption) ?_
        case y33 => (intro w hSw; (try dsimp only at hSw); go_simp; try with_reducible rfl)
        try simp only [Act.put, List.setIfInBounds_toArray, List.set_cons_zero, List.set_cons_succ]
        refine wpAnyH_done (by kernel_rfl) ?_ _
        have hfz := FR.out _ Y3.out 4
        go_wp2_with fail
        go_ret
        exact ⟨true, ⟨c, cp, cs⟩, rfl, ⟨blk_set (WKx.out _ Y3.out).blk 4 _⟩, ((KB.out.no Y3.out).toP.setCell (p := ⟨p, 4, none⟩) (fun _ => rfl) _), Or.inl ⟨rfl, HGO.out⟩⟩
      | false =>
        cases ed with
        | true =>
          refine wp_region_held_drew (S := (fun w' => w'.cell? ⟨p, 0, none⟩ = some (.int .i64 X) ∧ w'.cell? ⟨p, 1, none⟩ = some (.int .i64 Y) ∧ w'.cell? ⟨p, 2, none⟩ = some (.string sb) ∧ w'.cell? ⟨p, 3, none⟩ = some (.int .i64 d) ∧ w'.cell? ⟨p, 4, none⟩ = some (.int .i64 ca) ∧ w'.cell? ⟨p, 5, none⟩ = some (.int .i64 cp) ∧ w'.cell? ⟨p, 6, none⟩ = some (.bool cs) ∧ w'.cell? ⟨w.heap.size, 0, none⟩ = some (.int .u8 1) ∧ w'.cell? ⟨w.heap.size, 1, none⟩ = some (.int .i64 c) ∧ w'.cell? ⟨w.heap.size, 2, none⟩ = some (.int .i64 q))) (by kernel_rfl) ?_ (fun hHeld => ?_)
          case refine_1 => exact ⟨by assumption, by assumption, by assumption, by assumption, by assumption, by assumption, by assumption, by assumption, by assumption, by assumption⟩
          refine takeH (i := 0) (v := ?v0) rfl (by kernel_rfl) (by kernel_rfl) (by kernel_rfl) (fun _ _ _ h => h) (Or.inl ⟨by rfl, ?y0⟩) (by assumption) ?_
          case y0 => (intro w hSw; (try dsimp only at hSw); go_simp; try with_reducible rfl)
          try simp only [Act.put, List.setIfInBounds_toArray, List.set_cons_zero, List.set_cons_succ]
          refine takeH (i := 1) (v := ?v1) rfl (by kernel_rfl) (by kernel_rfl) (by kernel_rfl) (fun _ _ _ h => h) (Or.inl ⟨by rfl, ?y1⟩) (by assumption) ?_
          case y1 => (intro w hSw; (try dsimp only at hSw); go_simp; try with_reducible rfl)
          try simp only [Act.put, List.setIfInBounds_toArray, List.set_cons_zero, List.set_cons_succ]
          refine takeH (i := 2) (v := ?v2) rfl (by kernel_rfl) (by kernel_rfl) (by kernel_rfl) (fun _ _ _ h => h) (Or.inl ⟨by rfl, ?y2⟩) (by assumption) ?_
          case y2 => (intro w hSw; (try dsimp only at hSw); go_simp; try with_reducible rfl)
          try simp only [Act.put, List.setIfInBounds_toArray, List.set_cons_zero, List.set_cons_succ]
          refine takeH (i := 3) (v := ?v3) rfl (by kernel_rfl) (by kernel_rfl) (by kernel_rfl) (fun _ _ _ h => h) (Or.inl ⟨by rfl, ?y3⟩) (by assumption) ?_
          case y3 => (intro w hSw; (try dsimp only at hSw); go_simp; try with_reducible rfl)
          try simp only [Act.put, List.setIfInBounds_toArray, List.set_cons_zero, List.set_cons_succ]
          refine takeH (i := 4) (v := ?v4) rfl (by kernel_rfl) (by kernel_rfl) (by kernel_rfl) (fun _ _ _ h => h) (Or.inl ⟨by rfl, ?y4⟩) (by assumption) ?_
          case y4 => (intro w hSw; (try dsimp only at hSw); go_simp; try with_reducible rfl)
          try simp only [Act.put, List.setIfInBounds_toArray, List.set_cons_zero, List.set_cons_succ]
          refine takeH (i := 5) (v := ?v5) rfl (by kernel_rfl) (by kernel_rfl) (by kernel_rfl) (fun _ _ _ h => h) (Or.inl ⟨by rfl, ?y5⟩) (by assumption) ?_
          case y5 => (intro w hSw; (try dsimp only at hSw); go_simp; try with_reducible rfl)
          try simp only [Act.put, List.setIfInBounds_toArray, List.set_cons_zero, List.set_cons_succ]
          refine takeH (i := 6) (v := ?v6) rfl (by kernel_rfl) (by kernel_rfl) (by kernel_rfl) (fun _ _ _ h => h) (Or.inl ⟨by rfl, ?y6⟩) (by assumption) ?_
          case y6 => (intro w hSw; (try dsimp only at hSw); go_simp; try with_reducible rfl)
          try simp only [Act.put, List.setIfInBounds_toArray, List.set_cons_zero, List.set_cons_succ]
          refine takeH (i := 7) (v := ?v7) rfl (by kernel_rfl) (by kernel_rfl) (by kernel_rfl) (fun _ _ _ h => h) (Or.inl ⟨by rfl, ?y7⟩) (by assumption) ?_
          case y7 => (intro w hSw; (try dsimp only at hSw); go_simp; try with_reducible rfl)
          try simp only [Act.put, List.setIfInBounds_toArray, List.set_cons_zero, List.set_cons_succ]
          refine takeH (i := 8) (v := ?v8) rfl (by kernel_rfl) (by kernel_rfl) (by kernel_rfl) (fun _ _ _ h => h) (Or.inl ⟨by rfl, ?y8⟩) (by assumption) ?_
          case y8 => (intro w hSw; (try dsimp only at hSw); go_simp; try with_reducible rfl)
          try simp only [Act.put, List.setIfInBounds_toArray, List.set_cons_zero, List.set_cons_succ]
          refine takeH (i := 9) (v := ?v9) rfl (by kernel_rfl) (by kernel_rfl) (by kernel_rfl) (fun _ _ _ h => h) (Or.inl ⟨by rfl, ?y9⟩) (by assumption) ?_
          case y9 => (intro w hSw; (try dsimp only at hSw); go_simp; try with_reducible rfl)
          try simp only [Act.put, List.setIfInBounds_toArray, List.set_cons_zero, List.set_cons_succ]
          refine takeH (i := 10) (v := ?v10) rfl (by kernel_rfl) (by kernel_rfl) (by kernel_rfl) (fun _ _ _ h => h) (Or.inl ⟨by rfl, ?y10⟩) (by assumption) ?_
          case y10 => (intro w hSw; (try dsimp only at hSw); go_simp; try with_reducible rfl)
          try simp only [Act.put, List.setIfInBounds_toArray, List.set_cons_zero, List.set_cons_succ]
          refine takeH (i := 11) (v := ?v11) rfl (by kernel_rfl) (by kernel_rfl) (by kernel_rfl) (fun _ _ _ h => h) (Or.inl ⟨by rfl, ?y11⟩) (by assumption) ?_
          case y11 => (intro w hSw; (try dsimp only at hSw); go_simp; try with_reducible rfl)
          try simp only [Act.put, List.setIfInBounds_toArray, List.set_cons_zero, List.set_cons_succ]
          refine takeH (i := 13) (v := ?v13) rfl (by kernel_rfl) (by kernel_rfl) (by kernel_rfl) (fun _ _ _ h => h) (Or.inl ⟨by rfl, ?y13⟩) (by assumption) ?_
          case y13 => (intro w hSw; (try dsimp only at hSw); go_simp; try with_reducible rfl)
          try simp only [Act.put, List.setIfInBounds_toArray, List.set_cons_zero, List.set_cons_succ]
          refine takeH (i := 14) (v := ?v14) rfl (by kernel_rfl) (by kernel_rfl) (by kernel_rfl) (fun _ _ _ h => h) (Or.inl ⟨by rfl, ?y14⟩) (by assumption) ?_
          case y14 => (intro w hSw; (try dsimp only at hSw); go_simp; try with_reducible rfl)
          try simp only [Act.put, List.setIfInBounds_toArray, List.set_cons_zero, List.set_cons_succ]
          refine wpAnyH_ready (rs := [12]) (by kernel_rfl) (by simp) ?_
          refine consH rfl (fun K hK => ?_) AllReadyH.nil
          go_simp
          (go_at_call 47; refine (NE.out _).mono ?_; rintro e y1 ⟨v1, rfl, n1⟩; have Y1 := Lib.hid ((Kp.refl No w1).drew.no n1.kp); have CO := Lib.hid (conI_any n1.own.rd c _ HTC.out); obtain ⟨d0, d1, d2, d3, d4, d5, d6, d7, d8, d9⟩ := LB.out y1 (Y1.out); clear n1)
          try go_wp2_with fail
          refine hK.out _ _ ?_ (fun hHeld => ?_)
          case refine_1 => exact ⟨by assumption, by assumption, by assumption, by assumption, by assumption, by assumption, by assumption, by assumption, by assumption, by assumption⟩
          clear hK K
          try simp only [Act.put, List.setIfInBounds_toArray, List.set_cons_zero, List.set_cons_succ]
          refine wpAnyH_ready (rs := [15]) (by kernel_rfl) (by simp) ?_
          refine consH rfl (fun K hK => ?_) AllReadyH.nil
          go_simp
          (go_at_call 46; refine CO.out.mono ?_; rintro e y2 ⟨rfl, k2⟩; have Y2 := Lib.hid (Y1.out.no k2); obtain ⟨e0, e1, e2, e3, e4, e5, e6, e7, e8, e9⟩ := LB.out y2 (Y2.out); clear k2)
          try go_wp2_with fail
          refine hK.out _ _ ?_ (fun hHeld => ?_)
          case refine_1 => exact ⟨by assumption, by assumption, by assumption, by assumption, by assumption, by assumption, by assumption, by assumption, by assumption, by assumption⟩
          clear hK K
          try simp only [Act.put, List.setIfInBounds_toArray, List.set_cons_zero, List.set_cons_succ]
          refine takeH (i := 16) (v := .bool false) rfl (by kernel_rfl) (by kernel_rfl) (by kernel_rfl) (fun _ _ _ h => h) (Or.inl ⟨by rfl, ?y16⟩) (by assumption) ?_
          case y16 => (intro w hSw; (try dsimp only at hSw); go_simp; try with_reducible rfl)
          try simp only [Act.put, List.setIfInBounds_toArray, List.set_cons_zero, List.set_cons_succ]
          refine takeH (i := 17) (v := .bool false) rfl (by kernel_rfl) (by kernel_rfl) (by kernel_rfl) (fun _ _ _ h => h) (Or.inl ⟨by rfl, ?y17⟩) (by assumption) ?_
          case y17 => (intro w hSw; (try dsimp only at hSw); go_simp; try with_reducible rfl)
          try simp only [Act.put, List.setIfInBounds_toArray, List.set_cons_zero, List.set_cons_succ]
          refine takeH (i := 18) (v := .bool false) rfl (by kernel_rfl) (by kernel_rfl) (by kernel_rfl) (fun _ _ _ h => h) (Or.inl ⟨by rfl, ?y18⟩) (by assumption) ?_
          case y18 => (intro w hSw; (try dsimp only at hSw); go_simp; try with_reducible rfl)
          try simp only [Act.put, List.setIfInBounds_toArray, List.set_cons_zero, List.set_cons_succ]
          refine takeH (i := 19) (v := ?v19) rfl (by kernel_rfl) (by kernel_rfl) (by kernel_rfl) (fun _ _ _ h => h) (Or.inl ⟨by rfl, ?y19⟩) (by assumption) ?_
          case y19 => (intro w hSw; (try dsimp only at hSw); go_simp; try with_reducible rfl)
          try simp only [Act.put, List.setIfInBounds_toArray, List.set_cons_zero, List.set_cons_succ]
          refine takeH (i := 20) (v := ?v20) rfl (by kernel_rfl) (by kernel_rfl) (by kernel_rfl) (fun _ _ _ h => h) (Or.inl ⟨by rfl, ?y20⟩) (by assumption) ?_
          case y20 => (intro w hSw; (try dsimp only at hSw); go_simp; try with_reducible rfl)
          try simp only [Act.put, List.setIfInBounds_toArray, List.set_cons_zero, List.set_cons_succ]
          refine takeH (i := 21) (v := ?v21) rfl (by kernel_rfl) (by kernel_rfl) (by kernel_rfl) (fun _ _ _ h => h) (Or.inl ⟨by rfl, ?y21⟩) (by assumption) ?_
          case y21 => (intro w hSw; (try dsimp only at hSw); go_simp; try with_reducible rfl)
          try simp only [Act.put, List.setIfInBounds_toArray, List.set_cons_zero, List.set_cons_succ]
          refine wpAnyH_ready (rs := [22]) (by kernel_rfl) (by simp) ?_
          refine consH rfl (fun K hK => ?_) AllReadyH.nil
          go_simp
          (go_at_call 26; refine (LA.out _ (WKx.out _ Y2.out) _ HBL.out).mono ?_; rintro e y3 ⟨rfl, k3⟩; have Y3 := Lib.hid (Y2.out.no k3); obtain ⟨g0, g1, g2, g3, g4, g5, g6, g7, g8, g9⟩ := LB.out y3 (Y3.out); clear k3)
          try go_wp2_with fail
          refine hK.out _ _ ?_ (fun hHeld => ?_)
          case refine_1 => exact ⟨by assumption, by assumption, by assumption, by assumption, by assumption, by assumption, by assumption, by assumption, by assumption, by assumption⟩
          clear hK K
          try simp only [Act.put, List.setIfInBounds_toArray, List.set_cons_zero, List.set_cons_succ]
          refine takeH (i := 23) (v := .bool true) rfl (by kernel_rfl) (by kernel_rfl) (by kernel_rfl) (fun _ _ _ h => h) (Or.inl ⟨by rfl, ?y23⟩) (by assumption) ?_
          case y23 => (intro w hSw; (try dsimp only at hSw); go_simp; try with_reducible rfl)
          try simp only [Act.put, List.setIfInBounds_toArray, List.set_cons_zero, List.set_cons_succ]
          refine takeH (i := 24) (v := .bool true) rfl (by kernel_rfl) (by kernel_rfl) (by kernel_rfl) (fun _ _ _ h => h) (Or.inl ⟨by rfl, ?y24⟩) (by assumption) ?_
          case y24 => (intro w hSw; (try dsimp only at hSw); go_simp; try with_reducible rfl)
          try simp only [Act.put, List.setIfInBounds_toArray, List.set_cons_zero, List.set_cons_succ]
          refine takeH (i := 25) (v := ?v25) rfl (by kernel_rfl) (by kernel_rfl) (by kernel_rfl) (fun _ _ _ h => h) (Or.inl ⟨by rfl, ?y25⟩) (by assumption) ?_
          case y25 => (intro w hSw; (try dsimp only at hSw); go_simp; try with_reducible rfl)
          try simp only [Act.put, List.setIfInBounds_toArray, List.set_cons_zero, List.set_cons_succ]
          refine takeH (i := 26) (v := ?v26) rfl (by kernel_rfl) (by kernel_rfl) (by kernel_rfl) (fun _ _ _ h => h) (Or.inl ⟨by rfl, ?y26⟩) (by assumption) ?_
          case y26 => (intro w hSw; (try dsimp only at hSw); go_simp; try with_reducible rfl)
          try simp only [Act.put, List.setIfInBounds_toArray, List.set_cons_zero, List.set_cons_succ]
          refine takeH (i := 27) (v := ?v27) rfl (by kernel_rfl) (by kernel_rfl) (by kernel_rfl) (fun _ _ _ h => h) (Or.inl ⟨by rfl, ?y27⟩) (by assumption) ?_
          case y27 => (intro w hSw; (try dsimp only at hSw); go_simp; try with_reducible rfl)
          try simp only [Act.put, List.setIfInBounds_toArray, List.set_cons_zero, List.set_cons_succ]
          refine takeH (i := 28) (v := ?v28) rfl (by kernel_rfl) (by kernel_rfl) (by kernel_rfl) (fun _ _ _ h => h) (Or.inl ⟨by rfl, ?y28⟩) (by assumption) ?_
          case y28 => (intro w hSw; (try dsimp only at hSw); go_simp; try with_reducible rfl)
          try simp only [Act.put, List.setIfInBounds_toArray, List.set_cons_zero, List.set_cons_succ]
          refine takeH (i := 29) (v := ?v29) rfl (by kernel_rfl) (by kernel_rfl) (by kernel_rfl) (fun _ _ _ h => h) (Or.inl ⟨by rfl, ?y29⟩) (by assumption) ?_
          case y29 => (intro w hSw; (try dsimp only at hSw); go_simp; try with_reducible rfl)
          try simp only [Act.put, List.setIfInBounds_toArray, List.set_cons_zero, List.set_cons_succ]
          refine takeH (i := 30) (v := ?v30) rfl (by kernel_rfl) (by kernel_rfl) (by kernel_rfl) (fun _ _ _ h => h) (Or.inl ⟨by rfl, ?y30⟩) (by assumption) ?_
          case y30 => (intro w hSw; (try dsimp only at hSw); go_simp; try with_reducible rfl)
          try simp only [Act.put, List.setIfInBounds_toArray, List.set_cons_zero, List.set_cons_succ]
          refine takeH (i := 31) (v := .bool true) rfl (by kernel_rfl) (by kernel_rfl) (by kernel_rfl) (fun _ _ _ h => h) (Or.inl ⟨by rfl, ?y31⟩) (by assumption) ?_
          case y31 => (intro w hSw; (try dsimp only at hSw); go_simp; try with_reducible rfl)
          try simp only [Act.put, List.setIfInBounds_toArray, List.set_cons_zero, List.set_cons_succ]
          refine takeH (i := 32) (v := .bool true) rfl (by kernel_rfl) (by kernel_rfl) (by kernel_rfl) (fun _ _ _ h => h) (Or.inl ⟨by rfl, ?y32⟩) (by assumption) ?_
          case y32 => (intro w hSw; (try dsimp only at hSw); go_simp; try with_reducible rfl)
          try simp only [Act.put, List.setIfInBounds_toArray, List.set_cons_zero, List.set_cons_succ]
          refine takeH (i := 33) (v := .bool true) rfl (by kernel_rfl) (by kernel_rfl) (by kernel_rfl) (fun _ _ _ h => h) (Or.inl ⟨by rfl, ?y33⟩) (by assumption) ?_
          case y33 => (intro w hSw; (try dsimp only at hSw); go_simp; try with_reducible rfl)
          try simp only [Act.put, List.setIfInBounds_toArray, List.set_cons_zero, List.set_cons_succ]
          refine wpAnyH_done (by kernel_rfl) ?_ _
          go_wp2_with fail
          go_ret
          exact ⟨false, _, rfl, WKx.out _ Y3.out, (KB.out.no Y3.out).toP, Or.inr ⟨rfl, HGO.out, rfl⟩⟩
        | false =>
          refine wp_region_held_drew (S := (fun w' => w'.cell? ⟨p, 0, none⟩ = some (.int .i64 X) ∧ w'.cell? ⟨p, 1, none⟩ = some (.int .i64 Y) ∧ w'.cell? ⟨p, 2, none⟩ = some (.string sb) ∧ w'.cell? ⟨p, 3, none⟩ = some (.int .i64 d) ∧ w'.cell? ⟨p, 4, none⟩ = some (.int .i64 ca) ∧ w'.cell? ⟨p, 5, none⟩ = some (.int .i64 cp) ∧ w'.cell? ⟨p, 6, none⟩ = some (.bool cs) ∧ w'.cell? ⟨w.heap.size, 0, none⟩ = some (.int .u8 1) ∧ w'.cell? ⟨w.heap.size, 1, none⟩ = some (.int .i64 c) ∧ w'.cell? ⟨w.heap.size, 2, none⟩ = some (.int .i64 q))) (by kernel_rfl) ?_ (fun hHeld => ?_)
          case refine_1 => exact ⟨by assumption, by assumption, by assumption, by assumption, by assumption, by assumption, by assumption, by assumption, by assumption, by assumption⟩
          refine takeH (i := 0) (v := ?v0) rfl (by kernel_rfl) (by kernel_rfl) (by kernel_rfl) (fun _ _ _ h => h) (Or.inl ⟨by rfl, ?y0⟩) (by assumption) ?_
          case y0 => (intro w hSw; (try dsimp only at hSw); go_simp; try with_reducible rfl)
          try simp only [Act.put, List.setIfInBounds_toArray, List.set_cons_zero, List.set_cons_succ]
          refine takeH (i := 1) (v := ?v1) rfl (by kernel_rfl) (by kernel_rfl) (by kernel_rfl) (fun _ _ _ h => h) (Or.inl ⟨by rfl, ?y1⟩) (by assumption) ?_
          case y1 => (intro w hSw; (try dsimp only at hSw); go_simp; try with_reducible rfl)
          try simp only [Act.put, List.setIfInBounds_toArray, List.set_cons_zero, List.set_cons_succ]
          refine takeH (i := 2) (v := ?v2) rfl (by kernel_rfl) (by kernel_rfl) (by kernel_rfl) (fun _ _ _ h => h) (Or.inl ⟨by rfl, ?y2⟩) (by assumption) ?_
          case y2 => (intro w hSw; (try dsimp only at hSw); go_simp; try with_reducible rfl)
          try simp only [Act.put, List.setIfInBounds_toArray, List.set_cons_zero, List.set_cons_succ]
          refine takeH (i := 3) (v := ?v3) rfl (by kernel_rfl) (by kernel_rfl) (by kernel_rfl) (fun _ _ _ h => h) (Or.inl ⟨by rfl, ?y3⟩) (by assumption) ?_
          case y3 => (intro w hSw; (try dsimp only at hSw); go_simp; try with_reducible rfl)
          try simp only [Act.put, List.setIfInBounds_toArray, List.set_cons_zero, List.set_cons_succ]
          refine takeH (i := 4) (v := ?v4) rfl (by kernel_rfl) (by kernel_rfl) (by kernel_rfl) (fun _ _ _ h => h) (Or.inl ⟨by rfl, ?y4⟩) (by assumption) ?_
          case y4 => (intro w hSw; (try dsimp only at hSw); go_simp; try with_reducible rfl)
          try simp only [Act.put, List.setIfInBounds_toArray, List.set_cons_zero, List.set_cons_succ]
          refine takeH (i := 5) (v := ?v5) rfl (by kernel_rfl) (by kernel_rfl) (by kernel_rfl) (fun _ _ _ h => h) (Or.inl ⟨by rfl, ?y5⟩) (by assumption) ?_
          case y5 => (intro w hSw; (try dsimp only at hSw); go_simp; try with_reducible rfl)
          try simp only [Act.put, List.setIfInBounds_toArray, List.set_cons_zero, List.set_cons_succ]
          refine takeH (i := 6) (v := ?v6) rfl (by kernel_rfl) (by kernel_rfl) (by kernel_rfl) (fun _ _ _ h => h) (Or.inl ⟨by rfl, ?y6⟩) (by assumption) ?_
          case y6 => (intro w hSw; (try dsimp only at hSw); go_simp; try with_reducible rfl)
          try simp only [Act.put, List.setIfInBounds_toArray, List.set_cons_zero, List.set_cons_succ]
          refine takeH (i := 7) (v := ?v7) rfl (by kernel_rfl) (by kernel_rfl) (by kernel_rfl) (fun _ _ _ h => h) (Or.inl ⟨by rfl, ?y7⟩) (by assumption) ?_
          case y7 => (intro w hSw; (try dsimp only at hSw); go_simp; try with_reducible rfl)
          try simp only [Act.put, List.setIfInBounds_toArray, List.set_cons_zero, List.set_cons_succ]
          refine takeH (i := 8) (v := ?v8) rfl (by kernel_rfl) (by kernel_rfl) (by kernel_rfl) (fun _ _ _ h => h) (Or.inl ⟨by rfl, ?y8⟩) (by assumption) ?_
          case y8 => (intro w hSw; (try dsimp only at hSw); go_simp; try with_reducible rfl)
          try simp only [Act.put, List.setIfInBounds_toArray, List.set_cons_zero, List.set_cons_succ]
          refine takeH (i := 9) (v := ?v9) rfl (by kernel_rfl) (by kernel_rfl) (by kernel_rfl) (fun _ _ _ h => h) (Or.inl ⟨by rfl, ?y9⟩) (by assumption) ?_
          case y9 => (intro w hSw; (try dsimp only at hSw); go_simp; try with_reducible rfl)
          try simp only [Act.put, List.setIfInBounds_toArray, List.set_cons_zero, List.set_cons_succ]
          refine takeH (i := 10) (v := ?v10) rfl (by kernel_rfl) (by kernel_rfl) (by kernel_rfl) (fun _ _ _ h => h) (Or.inl ⟨by rfl, ?y10⟩) (by assumption) ?_
          case y10 => (intro w hSw; (try dsimp only at hSw); go_simp; try with_reducible rfl)
          try simp only [Act.put, List.setIfInBounds_toArray, List.set_cons_zero, List.set_cons_succ]
          refine takeH (i := 11) (v := ?v11) rfl (by kernel_rfl) (by kernel_rfl) (by kernel_rfl) (fun _ _ _ h => h) (Or.inl ⟨by rfl, ?y11⟩) (by assumption) ?_
          case y11 => (intro w hSw; (try dsimp only at hSw); go_simp; try with_reducible rfl)
          try simp only [Act.put, List.setIfInBounds_toArray, List.set_cons_zero, List.set_cons_succ]
          refine takeH (i := 13) (v := ?v13) rfl (by kernel_rfl) (by kernel_rfl) (by kernel_rfl) (fun _ _ _ h => h) (Or.inl ⟨by rfl, ?y13⟩) (by assumption) ?_
          case y13 => (intro w hSw; (try dsimp only at hSw); go_simp; try with_reducible rfl)
          try simp only [Act.put, List.setIfInBounds_toArray, List.set_cons_zero, List.set_cons_succ]
          refine takeH (i := 14) (v := ?v14) rfl (by kernel_rfl) (by kernel_rfl) (by kernel_rfl) (fun _ _ _ h => h) (Or.inl ⟨by rfl, ?y14⟩) (by assumption) ?_
          case y14 => (intro w hSw; (try dsimp only at hSw); go_simp; try with_reducible rfl)
          try simp only [Act.put, List.setIfInBounds_toArray, List.set_cons_zero, List.set_cons_succ]
          refine wpAnyH_ready (rs := [12]) (by kernel_rfl) (by simp) ?_
          refine consH rfl (fun K hK => ?_) AllReadyH.nil
          go_simp
          (go_at_call 47; refine (NE.out _).mono ?_; rintro e y1 ⟨v1, rfl, n1⟩; have Y1 := Lib.hid ((Kp.refl No w1).drew.no n1.kp); have CO := Lib.hid (conI_any n1.own.rd c _ HTC.out); obtain ⟨d0, d1, d2, d3, d4, d5, d6, d7, d8, d9⟩ := LB.out y1 (Y1.out); clear n1)
          try go_wp2_with fail
          refine hK.out _ _ ?_ (fun hHeld => ?_)
          case refine_1 => exact ⟨by assumption, by assumption, by assumption, by assumption, by assumption, by assumption, by assumption, by assumption, by assumption, by assumption⟩
          clear hK K
          try simp only [Act.put, List.setIfInBounds_toArray, List.set_cons_zero, List.set_cons_succ]
          refine wpAnyH_ready (rs := [15]) (by kernel_rfl) (by simp) ?_
          refine consH rfl (fun K hK => ?_) AllReadyH.nil
          go_simp
          (go_at_call 46; refine CO.out.mono ?_; rintro e y2 ⟨rfl, k2⟩; have Y2 := Lib.hid (Y1.out.no k2); obtain ⟨e0, e1, e2, e3, e4, e5, e6, e7, e8, e9⟩ := LB.out y2 (Y2.out); clear k2)
          try go_wp2_with fail
          refine hK.out _ _ ?_ (fun hHeld => ?_)
          case refine_1 => exact ⟨by assumption, by assumption, by assumption, by assumption, by assumption, by assumption, by assumption, by assumption, by assumption, by assumption⟩
          clear hK K
          try simp only [Act.put, List.setIfInBounds_toArray, List.set_cons_zero, List.set_cons_succ]
          refine takeH (i := 16) (v := .bool false) rfl (by kernel_rfl) (by kernel_rfl) (by kernel_rfl) (fun _ _ _ h => h) (Or.inl ⟨by rfl, ?y16⟩) (by assumption) ?_
          case y16 => (intro w hSw; (try dsimp only at hSw); go_simp; try with_reducible rfl)
          try simp only [Act.put, List.setIfInBounds_toArray, List.set_cons_zero, List.set_cons_succ]
          refine takeH (i := 17) (v := .bool false) rfl (by kernel_rfl) (by kernel_rfl) (by kernel_rfl) (fun _ _ _ h => h) (Or.inl ⟨by rfl, ?y17⟩) (by assumption) ?_
          case y17 => (intro w hSw; (try dsimp only at hSw); go_simp; try with_reducible rfl)
          try simp only [Act.put, List.setIfInBounds_toArray, List.set_cons_zero, List.set_cons_succ]
          refine takeH (i := 18) (v := .bool false) rfl (by kernel_rfl) (by kernel_rfl) (by kernel_rfl) (fun _ _ _ h => h) (Or.inl ⟨by rfl, ?y18⟩) (by assumption) ?_
          case y18 => (intro w hSw; (try dsimp only at hSw); go_simp; try with_reducible rfl)
          try simp only [Act.put, List.setIfInBounds_toArray, List.set_cons_zero, List.set_cons_succ]
          refine takeH (i := 19) (v := ?v19) rfl (by kernel_rfl) (by kernel_rfl) (by kernel_rfl) (fun _ _ _ h => h) (Or.inl ⟨by rfl, ?y19⟩) (by assumption) ?_
          case y19 => (intro w hSw; (try dsimp only at hSw); go_simp; try with_reducible rfl)
          try simp only [Act.put, List.setIfInBounds_toArray, List.set_cons_zero, List.set_cons_succ]
          refine takeH (i := 20) (v := ?v20) rfl (by kernel_rfl) (by kernel_rfl) (by kernel_rfl) (fun _ _ _ h => h) (Or.inl ⟨by rfl, ?y20⟩) (by assumption) ?_
          case y20 => (intro w hSw; (try dsimp only at hSw); go_simp; try with_reducible rfl)
          try simp only [Act.put, List.setIfInBounds_toArray, List.set_cons_zero, List.set_cons_succ]
          refine takeH (i := 21) (v := ?v21) rfl (by kernel_rfl) (by kernel_rfl) (by kernel_rfl) (fun _ _ _ h => h) (Or.inl ⟨by rfl, ?y21⟩) (by assumption) ?_
          case y21 => (intro w hSw; (try dsimp only at hSw); go_simp; try with_reducible rfl)
          try simp only [Act.put, List.setIfInBounds_toArray, List.set_cons_zero, List.set_cons_succ]
          refine wpAnyH_ready (rs := [22]) (by kernel_rfl) (by simp) ?_
          refine consH rfl (fun K hK => ?_) AllReadyH.nil
          go_simp
          (go_at_call 26; refine (LA.out _ (WKx.out _ Y2.out) _ HBL.out).mono ?_; rintro e y3 ⟨rfl, k3⟩; have Y3 := Lib.hid (Y2.out.no k3); obtain ⟨g0, g1, g2, g3, g4, g5, g6, g7, g8, g9⟩ := LB.out y3 (Y3.out); clear k3)
          try go_wp2_with fail
          refine hK.out _ _ ?_ (fun hHeld => ?_)
          case refine_1 => exact ⟨by assumption, by assumption, by assumption, by assumption, by assumption, by assumption, by assumption, by assumption, by assumption, by assumption⟩
          clear hK K
          try simp only [Act.put, List.setIfInBounds_toArray, List.set_cons_zero, List.set_cons_succ]
          refine takeH (i := 23) (v := .bool true) rfl (by kernel_rfl) (by kernel_rfl) (by kernel_rfl) (fun _ _ _ h => h) (Or.inl ⟨by rfl, ?y23⟩) (by assumption) ?_
          case y23 => (intro w hSw; (try dsimp only at hSw); go_simp; try with_reducible rfl)
          try simp only [Act.put, List.setIfInBounds_toArray, List.set_cons_zero, List.set_cons_succ]
          refine takeH (i := 24) (v := .bool true) rfl (by kernel_rfl) (by kernel_rfl) (by kernel_rfl) (fun _ _ _ h => h) (Or.inl ⟨by rfl, ?y24⟩) (by assumption) ?_
          case y24 => (intro w hSw; (try dsimp only at hSw); go_simp; try with_reducible rfl)
          try simp only [Act.put, List.setIfInBounds_toArray, List.set_cons_zero, List.set_cons_succ]
          refine takeH (i := 25) (v := ?v25) rfl (by kernel_rfl) (by kernel_rfl) (by kernel_rfl) (fun _ _ _ h => h) (Or.inl ⟨by rfl, ?y25⟩) (by assumption) ?_
          case y25 => (intro w hSw; (try dsimp only at hSw); go_simp; try with_reducible rfl)
          try simp only [Act.put, List.setIfInBounds_toArray, List.set_cons_zero, List.set_cons_succ]
          refine takeH (i := 26) (v := ?v26) rfl (by kernel_rfl) (by kernel_rfl) (by kernel_rfl) (fun _ _ _ h => h) (Or.inl ⟨by rfl, ?y26⟩) (by assumption) ?_
          case y26 => (intro w hSw; (try dsimp only at hSw); go_simp; try with_reducible rfl)
          try simp only [Act.put, List.setIfInBounds_toArray, List.set_cons_zero, List.set_cons_succ]
          refine takeH (i := 27) (v := ?v27) rfl (by kernel_rfl) (by kernel_rfl) (by kernel_rfl) (fun _ _ _ h => h) (Or.inl ⟨by rfl, ?y27⟩) (by assumption) ?_
          case y27 => (intro w hSw; (try dsimp only at hSw); go_simp; try with_reducible rfl)
          try simp only [Act.put, List.setIfInBounds_toArray, List.set_cons_zero, List.set_cons_succ]
          refine takeH (i := 28) (v := ?v28) rfl (by kernel_rfl) (by kernel_rfl) (by kernel_rfl) (fun _ _ _ h => h) (Or.inl ⟨by rfl, ?y28⟩) (by assumption) ?_
          case y28 => (intro w hSw; (try dsimp only at hSw); go_simp; try with_reducible rfl)
          try simp only [Act.put, List.setIfInBounds_toArray, List.set_cons_zero, List.set_cons_succ]
          refine takeH (i := 29) (v := ?v29) rfl (by kernel_rfl) (by kernel_rfl) (by kernel_rfl) (fun _ _ _ h => h) (Or.inl ⟨by rfl, ?y29⟩) (by assumption) ?_
          case y29 => (intro w hSw; (try dsimp only at hSw); go_simp; try with_reducible rfl)
          try simp only [Act.put, List.setIfInBounds_toArray, List.set_cons_zero, List.set_cons_succ]
          refine takeH (i := 30) (v := ?v30) rfl (by kernel_rfl) (by kernel_rfl) (by kernel_rfl) (fun _ _ _ h => h) (Or.inl ⟨by rfl, ?y30⟩) (by assumption) ?_
          case y30 => (intro w hSw; (try dsimp only at hSw); go_simp; try with_reducible rfl)
          try simp only [Act.put, List.setIfInBounds_toArray, List.set_cons_zero, List.set_cons_succ]
          refine takeH (i := 31) (v := .bool false) rfl (by kernel_rfl) (by kernel_rfl) (by kernel_rfl) (fun _ _ _ h => h) (Or.inl ⟨by rfl, ?y31⟩) (by assumption) ?_
          case y31 => (intro w hSw; (try dsimp only at hSw); go_simp; try with_reducible rfl)
          try simp only [Act.put, List.setIfInBounds_toArray, List.set_cons_zero, List.set_cons_succ]
          refine takeH (i := 32) (v := .bool false) rfl (by kernel_rfl) (by kernel_rfl) (by kernel_rfl) (fun _ _ _ h => h) (Or.inl ⟨by rfl, ?y32⟩) (by assumption) ?_
          case y32 => (intro w hSw; (try dsimp only at hSw); go_simp; try with_reducible rfl)
          try simp only [Act.put, List.setIfInBounds_toArray, List.set_cons_zero, List.set_cons_succ]
          refine takeH (i := 33) (v := .bool false) rfl (by kernel_rfl) (by kernel_rfl) (by kernel_rfl) (fun _ _ _ h => h) (Or.inl ⟨by rfl, ?y33⟩) (by assumption) ?_
          case y33 => (intro w hSw; (try dsimp only at hSw); go_simp; try with_reducible rfl)
          try simp only [Act.put, List.setIfInBounds_toArray, List.set_cons_zero, List.set_cons_succ]
          refine wpAnyH_done (by kernel_rfl) ?_ _
          have hfz := FR.out _ Y3.out 4
          go_wp2_with fail
          go_ret
          exact ⟨true, ⟨c, cp, cs⟩, rfl, ⟨blk_set (WKx.out _ Y3.out).blk 4 _⟩, ((KB.out.no Y3.out).toP.setCell (p := ⟨p, 4, none⟩) (fun _ => rfl) _), Or.inl ⟨rfl, HGO.out⟩⟩
end Go.Proofs.YtmipnicdlldjnaaGreatDoor
