/- The document's examples (shown). -/
import Derived.Test.YtnejjjoedmefkaaRcv
import Derived.Lib.SlBytesConst
namespace Go.Proofs.Ytnejjjoedmefkaa
set_option linter.unusedVariables false
set_option linter.unusedSimpArgs false
open Go.RowKit

/-- What was laid is taken. -/
structure LaidP (h : Bool) (n : Nat) (d f : List Nat) : Prop where
  ok : takeOk f = true
  h : tkH f = h
  n : tkN f = n
  d : tkD f = d
  e : tkE f = 0
theorem layBad_good {h : Bool} {n : Nat} {d : List Nat} (hb : layBad h n d = 0) : d.length ≤ 200 ∧ n ≠ 18446744073709551615 ∧ (h = true → d = []) := by
  rcases layBad_cases h n d with ⟨_, e⟩ | ⟨_, _, e⟩ | ⟨_, _, _, _, e⟩ | ⟨a, b, c, e⟩
  · rw [e] at hb; exact absurd hb (by decide)
  · rw [e] at hb; exact absurd hb (by decide)
  · rw [e] at hb; exact absurd hb (by decide)
  · exact ⟨a, b, c⟩
theorem laid_p {h : Bool} {n : Nat} {d : List Nat} (hb : layBad h n d = 0) (hn : n < 18446744073709551616) (hd : ∀ x ∈ d, x < 256) : LaidP h n d (layL h n d) := by
  obtain ⟨c1, c2, c3⟩ := layBad_good hb
  have hl : layL h n d = frameP (packB (layBits h n d)) := by unfold layL; rw [if_pos hb]
  have hpl : (packB (layBits h n d)).length ≤ 1000 := by rw [packB_len]; have := layBits_len h n d (by omega) c1; omega
  obtain ⟨t1, t2, t3, t4⟩ := take_lay h n d hd hb hn
  have ho : takeOk (layL h n d) = true := by unfold takeOk; rw [hl, isF_frameP _ hpl, midP_frameP, t1]; rfl
  have hm : midP (layL h n d) = packB (layBits h n d) := by rw [hl, midP_frameP]
  exact ⟨ho, by unfold tkH; rw [ho, hm, t2]; rfl, by unfold tkN; rw [ho, hm, if_pos rfl, t3], by unfold tkD; rw [ho, hm, if_pos rfl, t4], by unfold tkE; rw [ho]; rfl⟩
theorem layL_lt (h : Bool) (n : Nat) (d : List Nat) : ∀ x ∈ layL h n d, x < 256 := by
  unfold layL
  split
  · exact frameP_lt _ (packB_lt _)
  · intro x hx; simp at hx
theorem layL_len (h : Bool) (n : Nat) (d : List Nat) (hn : n < 18446744073709551616) : (layL h n d).length ≤ 1004 := by
  unfold layL
  split
  · rename_i hb
    obtain ⟨c1, c2, c3⟩ := layBad_good hb
    rw [frameP_len, packB_len]
    have := layBits_len h n d (by omega) c1
    omega
  · simp
theorem lay_f_ok (n : Nat) (d : List Nat) (hn : n < 18446744073709551615) (hd : d.length ≤ 200) : layBad false n d = 0 := by
  unfold layBad; rw [if_neg (fun h => by rcases h with h | h <;> omega), if_neg (fun h => by cases h.1)]
theorem lay_t_ok (n : Nat) (hn : n < 18446744073709551615) : layBad true n [] = 0 := by
  unfold layBad; rw [if_neg (fun h => by rcases h with h | h; simp at h; omega), if_neg (fun h => h.2 rfl)]

/-- A packet that is laid comes to a receiver. -/
theorem ack_laid (heard n : Nat) (d : List Nat) (hn : n < 18446744073709551615) (hd : d.length ≤ 200) (hx : ∀ x ∈ d, x < 256) :
    ackB heard (layL false n d) = (decide (n ≠ 0) && decide (n ≤ nxt heard)) ∧ freshB heard (layL false n d) = (decide (n ≠ 0) && decide (n = nxt heard)) ∧ tkN (layL false n d) = n ∧ tkD (layL false n d) = d := by
  have q := laid_p (lay_f_ok n d hn hd) (by omega) hx
  have ha : ackB heard (layL false n d) = (decide (n ≠ 0) && decide (n ≤ nxt heard)) := by unfold ackB; rw [q.ok, q.h, q.n]; simp
  refine ⟨ha, ?_, q.n, q.d⟩
  unfold freshB
  rw [ha, q.n]
  by_cases e : n = nxt heard
  · simp [e]
  · simp [e]
theorem heard_laid (told n : Nat) (tells : Bool) (hn : n < 18446744073709551615) : heardB told tells (layL true n []) = (tells && decide (n = told + 1)) := by
  have q := laid_p (lay_t_ok n hn) (by omega) (fun x hx => by simp at hx)
  unfold heardB
  rw [q.ok, q.h, q.n]; simp

theorem Kp.lower {w w' : World} {p B : Nat} (h : Kp (fun k => k = p) w w') (hp : p < B) : Kp (fun k => k < B) w w' := h.mono fun k _ e => by have e : k = p := e; omega

def ab : List Nat := [97, 98]
def abF : List Nat := layL false 1 ab
def abB : List Nat := layL true 1 []
theorem ab_x : ∀ x ∈ ab, x < 256 := by decide
theorem ab_t : tellE 0 false ab = 0 := by decide
theorem ab1 : ackB 0 abF = true ∧ freshB 0 abF = true ∧ tkN abF = 1 ∧ tkD abF = ab ∧ nxt 0 = 1 := by
  obtain ⟨a, b, c, d⟩ := ack_laid 0 1 ab (by decide) (by decide) ab_x
  exact ⟨a.trans rfl, b.trans rfl, c, d, rfl⟩
theorem ab2 : ackB 1 abF = true ∧ freshB 1 abF = false := by
  obtain ⟨a, b, c, d⟩ := ack_laid 1 1 ab (by decide) (by decide) ab_x
  exact ⟨a.trans rfl, b.trans rfl⟩
theorem ab3 : heardB 0 true abB = true ∧ heardB 1 false abB = false := by
  exact ⟨(heard_laid 0 1 true (by decide)).trans rfl, (heard_laid 1 1 false (by decide)).trans rfl⟩

theorem Rd.litF {α : Type} (K : Kd α) (e : TypeId) (fr : Nat × Nat) (w : World) (cs : Array Value) (l : List α) (hc : cs.toList = K.encs l) (hm : l.length ≤ maxLen) (n : Nat) (hn : n = l.length) :
    Rd K (w.alloc (.cells cs e fr)) (.slice (some ⟨w.heap.size, 0, none⟩) n n) l := by
  subst hn
  refine .inr ⟨w.heap.size, 0, l.length, rfl, Nat.le_refl _, hm, fun j u hu => ?_⟩
  rw [Nat.zero_add, cell_of_row _ w.heap.size j cs e fr (blk_new w _)]
  rw [← hc] at hu; simpa using hu

set_option maxHeartbeats 400000 in
set_option maxRecDepth 100000 in
theorem shown14 (w : World) : Calls Try.prog 10 #[] w fun e w' => e = .returned (.bool true) ∧ Kp No w w' := by
  have kc := fun (w : World) (C : Array Value) (n c : Nat) => Lib.run_convert_bytes_const (P := Try.prog) w 23 5 C n c Try.underlying23 Try.underlying5
  go_enter Try.func10, Try.ntmps10
  go_wp2_with fail
  refine (newSnd_any w 0 (by decide) 0 rfl).mono ?_
  rintro e w1 ⟨ps, rfl, s1, k1, g1, l1⟩
  have S1 := Lib.hid s1; have K1 := Lib.hid k1; have G1 := Lib.hid g1; have L1 := Lib.hid l1
  clear s1 k1 g1 l1
  go_wp2_with fail
  refine (newRcv_any w1 0 (by decide) 0 rfl).mono ?_
  rintro e w2 ⟨pr, rfl, r2, k2, g2, l2⟩
  have S2 := Lib.hid (S1.out.no k2); have R2 := Lib.hid r2; have K2 := Lib.hid (K1.out.trans k2)
  have hne : pr ≠ ps := by have := L1.out; omega
  have NE := Lib.hid hne; have PS := Lib.hid (show ps < w2.heap.size by have := L1.out; have := k2.size; omega); have PR := Lib.hid l2
  have GR := Lib.hid (show w.heap.size ≤ pr by have := L1.out; have := G1.out; omega)
  clear r2 k2 g2 l2 hne
  go_wp2_with fail
  have hrd : Rd BK (w2.alloc (.cells #[.int .u8 97, .int .u8 98] 5 (2, 3))) (.slice (some ⟨w2.heap.size, 0, none⟩) 2 2) ab := Rd.litF BK 5 _ _ _ ab rfl (by unfold maxLen; decide) _ rfl
  refine (tell_any (S2.out.no ((Kp.refl _ _).alloc _)) hrd (by decide) ab_x).mono ?_
  rintro e w3 ⟨rfl, k3, V, s3, v3⟩
  rw [ab_t] at s3 ⊢
  have S3 : Hid (SndS ps 0 true ab V w3) := Lib.hid s3
  have K3 := Lib.hid (((Kp.refl (fun k => k = ps) w2).alloc _).trans k3)
  have R3 := Lib.hid (R2.out.far K3.out NE.out)
  have Z3 := Lib.hid K3.out.size
  have V3 : Hid (∀ g, V.ownBlock = some g → w2.heap.size ≤ g) := Lib.hid fun g hg => by
    rcases v3 g hg with e | e
    · simp [Value.ownBlock] at e
    · simp at e; omega
  clear s3 v3 k3 hrd
  go_wp2_with fail
  refine (packet_any S3.out).mono ?_
  rintro e w4 ⟨v4, rfl, k4⟩
  obtain ⟨A4, c4, rfl⟩ := k4.own.rd.shape
  have hpk : pktL 0 true ab = abF := rfl
  rw [hpk] at k4 ⊢
  have K4 := Lib.hid k4
  have S4 := Lib.hid (S3.out.no k4.kp); have R4 := Lib.hid (R3.out.no k4.kp)
  have FL : Hid (abF.length ≤ 1000000) := Lib.hid (Nat.le_trans (layL_len false 1 ab (by decide)) (by decide))
  have FX : Hid (∀ x ∈ abF, x < 256) := Lib.hid (layL_lt _ _ _)
  clear k4 hpk
  go_wp2_with fail
  refine (rhear_any R4.out K4.out.own.rd FL.out FX.out).mono ?_
  rintro e w5 ⟨va, vb, rfl, k5, r5, oa, ob, ga, gb⟩
  obtain ⟨q1, q2, q3, q4, q5⟩ := ab1
  rw [q2, q4, if_pos rfl] at oa
  rw [q1, q3, if_pos rfl] at ob
  rw [q2, q5, if_pos rfl] at r5
  rw [q2]
  obtain ⟨Aa, ca, rfl⟩ := oa.rd.shape
  obtain ⟨Ab, cb, rfl⟩ := ob.rd.shape
  have K5 := Lib.hid k5; have R5 := Lib.hid r5; have OA := Lib.hid oa; have OB : Hid (Own BK 5 w5 (.slice Ab (layL true 1 []).length cb) abB) := Lib.hid ob
  have GA := Lib.hid ga; have GB := Lib.hid gb
  have S5 := Lib.hid (S4.out.far k5 (fun e => NE.out (Eq.symm e)) fun g hg e => by have := V3.out g hg; have := PR.out; have e : g = pr := e; omega)
  have F5 := Lib.hid (K4.out.own.kp k5 fun g hg e => by have := K4.out.ge g hg; have := Z3.out; have := PR.out; have e : g = pr := e; omega)
  have Z4 := Lib.hid (Nat.le_trans Z3.out K4.out.kp.size)
  clear k5 r5 oa ob ga gb q1 q2 q3 q4 q5
  go_wp2_with fail
  refine (rhear_any R5.out F5.out.rd FL.out FX.out).mono ?_
  rintro e w6 ⟨vc, vd, rfl, k6, r6, oc, od, gc, gd⟩
  obtain ⟨q1, q2⟩ := ab2
  rw [q2] at oc r6 ⊢
  rw [q1, if_pos rfl, ab1.2.2.1] at od
  obtain ⟨Ac, cc, rfl⟩ := oc.rd.shape
  obtain ⟨Ad, cd, rfl⟩ := od.rd.shape
  have R6 : Hid (RcvS pr 1 w6) := Lib.hid r6
  have OD : Hid (Own BK 5 w6 (.slice Ad (layL true 1 []).length cd) abB) := Lib.hid od
  have Z5 := Lib.hid (Nat.le_trans Z4.out K5.out.size)
  have S6 := Lib.hid (S5.out.far k6 (fun e => NE.out (Eq.symm e)) fun g hg e => by have := V3.out g hg; have := PR.out; have e : g = pr := e; omega)
  have OA6 := Lib.hid (OA.out.kp k6 fun g hg e => by have := GA.out g hg; have := Z4.out; have := PR.out; have e : g = pr := e; omega)
  have OB6 := Lib.hid (OB.out.kp k6 fun g hg e => by have := GB.out g hg; have := Z4.out; have := PR.out; have e : g = pr := e; omega)
  have K6 := Lib.hid k6; have GD := Lib.hid gd
  have BL : Hid (abB.length ≤ 1000000) := Lib.hid (Nat.le_trans (layL_len true 1 [] (by decide)) (by decide))
  have BX : Hid (∀ x ∈ abB, x < 256) := Lib.hid (layL_lt _ _ _)
  clear k6 r6 oc od gc gd q1 q2
  go_wp2_with fail
  refine (shear_any S6.out OB6.out.rd BL.out BX.out).mono ?_
  rintro e w7 ⟨rfl, k7, s7⟩
  rw [ab3.1] at s7 ⊢
  have S7 : Hid (SndS ps 1 false [] (.slice none 0 0) w7) := Lib.hid s7
  have K7 := Lib.hid k7
  have Z6 := Lib.hid (Nat.le_trans Z5.out K6.out.size)
  have R7 := Lib.hid (R6.out.far k7 NE.out)
  have OA7 := Lib.hid (OA6.out.kp k7 fun g hg e => by have := GA.out g hg; have := Z4.out; have := PS.out; have e : g = ps := e; omega)
  have OD7 := Lib.hid (OD.out.kp k7 fun g hg e => by have := GD.out g hg; have := Z5.out; have := PS.out; have e : g = ps := e; omega)
  clear k7 s7
  go_wp2_with fail
  refine (shear_any S7.out OD7.out.rd BL.out BX.out).mono ?_
  rintro e w8 ⟨rfl, k8, s8⟩
  rw [ab3.2] at s8 ⊢
  have S8 : Hid (SndS ps 1 false [] (.slice none 0 0) w8) := Lib.hid s8
  have R8 := Lib.hid (R7.out.far k8 NE.out)
  have hst := (OA7.out.kp k8 fun g hg e => by have := GA.out g hg; have := Z4.out; have := PS.out; have e : g = ps := e; omega).rd.str
  have hab : strB ab = ⟨#[97, 98]⟩ := rfl
  rw [hab] at hst
  have K8 := Lib.hid k8
  clear k8 s8 hab
  go_wp2_with fail
  refine (told_any S8.out).mono ?_
  rintro e w9 ⟨rfl, rfl⟩
  go_wp2_with fail
  refine (heard_any R8.out).mono ?_
  rintro e w9 ⟨rfl, rfl⟩
  go_wp2
  go_ret
  refine ⟨rfl, ?_⟩
  have hB := K2.out
  have hp1 : w.heap.size ≤ ps := G1.out
  have hp2 := GR.out
  exact (((((hB.newer K3.out hp1).trans K4.out.kp).newer K5.out hp2).newer K6.out hp2).newer K7.out hp1).newer K8.out hp1
end Go.Proofs.Ytnejjjoedmefkaa
