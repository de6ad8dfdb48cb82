/- The laws of link: LinkBack. -/
import Derived.Test.YtnejjjoedmefkaaLwA
namespace Go.Proofs.Ytnejjjoedmefkaa
set_option linter.unusedVariables false
set_option linter.unusedSimpArgs false
open Go.RowKit

/-- What is taken is laid so. -/
theorem lay_take {b : List Nat} (hb : ∀ x ∈ b, x < 256) (ok : takeOk b = true) : layBad (tkH b) (tkN b) (tkD b) = 0 ∧ layL (tkH b) (tkN b) (tkD b) = b := by
  have h := ok
  unfold takeOk at h
  rw [Bool.and_eq_true] at h
  obtain ⟨h1, h2⟩ := h
  have hF := h1
  unfold isF at hF
  simp only [Bool.and_eq_true, decide_eq_true_eq] at hF
  have hx : ∀ y ∈ midP b, y < 256 := fun y hy => hb y (List.mem_of_mem_drop (List.mem_of_mem_take hy))
  obtain ⟨a1, a2, a3⟩ := take_back (midP b) hx h2
  have e1 : tkH b = tH (unpackB (midP b)) := by unfold tkH; rw [ok]; rfl
  have e2 : tkN b = tC (unpackB (midP b)) := by unfold tkN; rw [ok]; rfl
  have e3 : tkD b = tD (unpackB (midP b)) := by unfold tkD; rw [ok]; rfl
  rw [e1, e2, e3]
  refine ⟨a1, ?_⟩
  unfold layL
  rw [if_pos a1, a2]
  exact hF.2
theorem tk_no {b : List Nat} (ok : takeOk b = false) : tkH b = false ∧ tkN b = 0 ∧ tkD b = [] ∧ tkE b = 140 := by
  refine ⟨?_, ?_, ?_, ?_⟩
  · unfold tkH; rw [ok]; rfl
  · unfold tkN; rw [ok]; rfl
  · unfold tkD; rw [ok]; rfl
  · unfold tkE; rw [ok]; rfl
theorem tk_yes {b : List Nat} (ok : takeOk b = true) : tkE b = 0 := by unfold tkE; rw [ok]; rfl

set_option maxRecDepth 100000 in
theorem back_long {w : World} {v v' : Value} {d b : List Nat} (hv : Rd BK w v d) (hv' : Rd BK w v' b) (h : Bool) (n : Nat) (hc : 2000 < d.length ∨ 2000 < b.length) :
    Calls Try.prog 5 #[.agg #[.bool h, .int .u64 (n : Int), v], v'] w (LawR w) := by
  obtain ⟨A, cap, rfl⟩ := hv.shape
  obtain ⟨A', cap', rfl⟩ := hv'.shape
  have HBX := Lib.hid (blk_new w (.cells #[.bool h, .int .u64 (n : Int), .slice A d.length cap] 25))
  clear hv hv'
  have hcase : (2000 : Int) < (d.length : Int) ∨ (¬ (2000 : Int) < (d.length : Int) ∧ (2000 : Int) < (b.length : Int)) := by omega
  clear hc
  rcases hcase with c | ⟨c, c'⟩
  all_goals
    go_enter Try.func5, Try.ntmps5
    go_wp2_with fail
    refine (shown14 _).mono ?_
    rintro e w1 ⟨rfl, k1⟩
    have b2 : w1.cell? ⟨w.heap.size, 2, none⟩ = some (.slice A d.length cap) := (blk_cell (k1.blk HBX.out (no_no _)) 2).trans rfl
    have K1 := Lib.hid k1
    clear k1
    go_wp2
    go_ret
    exact ⟨rfl, ((Kp.refl _ _).alloc _).trans K1.out⟩

set_option maxHeartbeats 1000000 in
set_option maxRecDepth 100000 in
theorem back_any {w : World} {v v' : Value} {d b : List Nat} (hv : Rd BK w v d) (hv' : Rd BK w v' b) (h : Bool) (n : Nat) (hn : n < 18446744073709551616) (hdx : ∀ x ∈ d, x < 256) (hbx : ∀ x ∈ b, x < 256) :
    Calls Try.prog 5 #[.agg #[.bool h, .int .u64 (n : Int), v], v'] w (LawR w) := by
  by_cases hc : 2000 < d.length ∨ 2000 < b.length
  · exact back_long hv hv' h n hc
  obtain ⟨A, cap, rfl⟩ := hv.shape
  obtain ⟨A', cap', rfl⟩ := hv'.shape
  have H := Lib.hid hv; have HX := Lib.hid hdx; have HN := Lib.hid hn; have HB := Lib.hid hv'; have HBB := Lib.hid hbx
  have HBX := Lib.hid (blk_new w (.cells #[.bool h, .int .u64 (n : Int), .slice A d.length cap] 25))
  have cI : ¬ (2000 : Int) < (d.length : Int) := by omega
  have cJ : ¬ (2000 : Int) < (b.length : Int) := by omega
  have hbl : b.length ≤ 1000000 := by omega
  obtain ⟨er, her⟩ : ∃ er, er = layBad h n d := ⟨_, rfl⟩
  obtain ⟨X, hX⟩ : ∃ X, X = layL h n d := ⟨_, rfl⟩
  have hXl : X.length ≤ 1000000 := by rw [hX]; exact Nat.le_trans (layL_len h n d hn) (by decide)
  have hXx : ∀ x ∈ X, x < 256 := by rw [hX]; exact layL_lt _ _ _
  have h1 : (er = 0 ∧ sameP h (tkH X) n (tkN X) d (tkD X) = true ∧ tkE X = 0) ∨ ((er == 0) = false ∧ X = []) := by
    by_cases e : er = 0
    · left
      rw [her] at e
      have q := laid_p e hn hdx
      rw [← hX] at q
      exact ⟨by rw [her, e], by unfold sameP; rw [q.h, q.n, q.d]; simp, q.e⟩
    · right
      exact ⟨by simpa using e, by rw [hX]; unfold layL; rw [if_neg (by rw [← her]; exact e)]⟩
  obtain ⟨ok, hok⟩ : ∃ ok, ok = takeOk b := ⟨_, rfl⟩
  have h2 : (ok = true ∧ tkE b = 0 ∧ layBad (tkH b) (tkN b) (tkD b) = 0 ∧ layL (tkH b) (tkN b) (tkD b) = b) ∨ (ok = false ∧ tkE b = 140 ∧ tkH b = false ∧ tkN b = 0 ∧ tkD b = []) := by
    cases hk : takeOk b
    · obtain ⟨a, b, c, d⟩ := tk_no hk
      exact .inr ⟨by rw [hok, hk], d, a, b, c⟩
    · obtain ⟨a, b⟩ := lay_take hbx hk
      exact .inl ⟨by rw [hok, hk], tk_yes hk, a, b⟩
  have HER := Lib.hid her; have HXE := Lib.hid hX; have HXX := Lib.hid hXx
  have hN1 : tkN b < 18446744073709551616 := Nat.lt_succ_of_lt (tkN_lt b)
  obtain ⟨bh, hbh⟩ : ∃ bh, bh = tkH b := ⟨_, rfl⟩
  obtain ⟨bn, hbn⟩ : ∃ bn, bn = tkN b := ⟨_, rfl⟩
  obtain ⟨bd, hbd⟩ : ∃ bd, bd = tkD b := ⟨_, rfl⟩
  obtain ⟨be, hbe⟩ : ∃ be, be = tkE b := ⟨_, rfl⟩
  rw [← hbh, ← hbn, ← hbd, ← hbe] at h2
  rw [← hbn] at hN1
  have hbdx : ∀ x ∈ bd, x < 256 := by rw [hbd]; exact tkD_lt b
  have HBH := Lib.hid hbh; have HBN := Lib.hid hbn; have HBD := Lib.hid hbd; have HBE := Lib.hid hbe; have HN1 := Lib.hid hN1; have HBDX := Lib.hid hbdx
  clear hv hv' hdx hbx hn hc her hX hXx hok hN1 hbh hbn hbd hbe hbdx
  rcases h1 with ⟨e1, e2, e3⟩ | ⟨e1, e2⟩
  · subst e1
    have E2 := Lib.hid e2; have E3 := Lib.hid e3
    clear e2 e3
    rcases h2 with ⟨rfl, rfl, g2, g3⟩ | ⟨rfl, rfl, g2, g3, g4⟩
    · have G1 := Lib.hid g2; have G3 := Lib.hid g3
      clear g2 g3
      go_enter Try.func5, Try.ntmps5
      go_wp2_with fail
      refine (shown14 _).mono ?_
      rintro e w1 ⟨rfl, k1⟩
      have B1 := k1.blk HBX.out (no_no _)
      have b0 : w1.cell? ⟨w.heap.size, 0, none⟩ = some (.bool h) := (blk_cell B1 0).trans rfl
      have b1 : w1.cell? ⟨w.heap.size, 1, none⟩ = some (.int .u64 (n : Int)) := (blk_cell B1 1).trans rfl
      have b2 : w1.cell? ⟨w.heap.size, 2, none⟩ = some (.slice A d.length cap) := (blk_cell B1 2).trans rfl
      have K1 := Lib.hid (((Kp.refl No w).alloc _).trans k1)
      have BB := Lib.hid B1
      clear k1 B1
      go_wp2_with fail
      refine (lay_any (H.out.kpNo K1.out) h n HN.out HX.out).mono ?_
      rintro e w2 ⟨v2, rfl, k2⟩
      rw [← HER.out]
      rw [← HXE.out] at k2
      obtain ⟨A2, c2, rfl⟩ := k2.own.rd.shape
      have K2 := Lib.hid k2
      have KK2 := Lib.hid (K1.out.trans k2.kp)
      have BB2 := Lib.hid (k2.kp.blk BB.out (no_no _))
      clear k2
      go_wp2_with fail
      refine (take_any K2.out.own.rd hXl HXX.out).mono ?_
      rintro e w3 ⟨v3, rfl, k3⟩
      rw [E3.out]
      obtain ⟨A3, c3, rfl⟩ := k3.own.rd.shape
      have B3 := k3.kp.blk BB2.out (no_no _)
      have p0 : ∀ o, (w3.alloc o).cell? ⟨w.heap.size, 0, none⟩ = some (.bool h) := fun o => (blk_cell (blk_alloc B3 o) 0).trans rfl
      have p1 : ∀ o, (w3.alloc o).cell? ⟨w.heap.size, 1, none⟩ = some (.int .u64 (n : Int)) := fun o => (blk_cell (blk_alloc B3 o) 1).trans rfl
      have p2 : ∀ o, (w3.alloc o).cell? ⟨w.heap.size, 2, none⟩ = some (.slice A d.length cap) := fun o => (blk_cell (blk_alloc B3 o) 2).trans rfl
      have K3 := Lib.hid k3
      have KK3 := Lib.hid (fun o => (KK2.out.trans k3.kp).alloc o)
      clear k3 B3
      go_wp2_with fail
      refine (same_any (H.out.kpNo (KK3.out _)) (K3.out.own.rd.alloc _) HX.out (tkD_lt X) h (tkH X) n (tkN X)).mono ?_
      rintro e w4 ⟨rfl, k4⟩
      rw [E2.out]
      have KK4 := Lib.hid ((KK3.out _).trans k4)
      clear k4
      go_wp2_with fail
      refine (take_any (HB.out.kpNo KK4.out) hbl HBB.out).mono ?_
      rintro e w5 ⟨v5, rfl, k5⟩
      rw [← HBH.out, ← HBN.out, ← HBE.out]
      rw [← HBD.out] at k5
      obtain ⟨A5, c5, rfl⟩ := k5.own.rd.shape
      have K5 := Lib.hid k5
      have KK5 := Lib.hid (fun o => (KK4.out.trans k5.kp).alloc o)
      have B5 := Lib.hid (fun x y z => blk_new w5 (.cells #[x, y, z] 25))
      clear k5
      go_wp2_with fail
      refine (lay_any (K5.out.own.rd.alloc _) bh bn HN1.out HBDX.out).mono ?_
      rintro e w6 ⟨v6, rfl, k6⟩
      rw [G1.out]
      rw [G3.out] at k6
      obtain ⟨A6, c6, rfl⟩ := k6.own.rd.shape
      have KK6 := Lib.hid ((KK5.out _).trans k6.kp)
      have hst6 := k6.own.rd.str
      have hstb := (HB.out.kpNo KK6.out).str
      clear k6
      go_wp2
      go_ret
      exact ⟨rfl, KK6.out⟩
    · have HS := Lib.hid (show sameP bh false bn 0 bd [] = true by rw [g2, g3, g4]; rfl)
      clear g2 g3 g4
      go_enter Try.func5, Try.ntmps5
      go_wp2_with fail
      refine (shown14 _).mono ?_
      rintro e w1 ⟨rfl, k1⟩
      have B1 := k1.blk HBX.out (no_no _)
      have b0 : w1.cell? ⟨w.heap.size, 0, none⟩ = some (.bool h) := (blk_cell B1 0).trans rfl
      have b1 : w1.cell? ⟨w.heap.size, 1, none⟩ = some (.int .u64 (n : Int)) := (blk_cell B1 1).trans rfl
      have b2 : w1.cell? ⟨w.heap.size, 2, none⟩ = some (.slice A d.length cap) := (blk_cell B1 2).trans rfl
      have K1 := Lib.hid (((Kp.refl No w).alloc _).trans k1)
      have BB := Lib.hid B1
      clear k1 B1
      go_wp2_with fail
      refine (lay_any (H.out.kpNo K1.out) h n HN.out HX.out).mono ?_
      rintro e w2 ⟨v2, rfl, k2⟩
      rw [← HER.out]
      rw [← HXE.out] at k2
      obtain ⟨A2, c2, rfl⟩ := k2.own.rd.shape
      have K2 := Lib.hid k2
      have KK2 := Lib.hid (K1.out.trans k2.kp)
      have BB2 := Lib.hid (k2.kp.blk BB.out (no_no _))
      clear k2
      go_wp2_with fail
      refine (take_any K2.out.own.rd hXl HXX.out).mono ?_
      rintro e w3 ⟨v3, rfl, k3⟩
      rw [E3.out]
      obtain ⟨A3, c3, rfl⟩ := k3.own.rd.shape
      have B3 := k3.kp.blk BB2.out (no_no _)
      have p0 : ∀ o, (w3.alloc o).cell? ⟨w.heap.size, 0, none⟩ = some (.bool h) := fun o => (blk_cell (blk_alloc B3 o) 0).trans rfl
      have p1 : ∀ o, (w3.alloc o).cell? ⟨w.heap.size, 1, none⟩ = some (.int .u64 (n : Int)) := fun o => (blk_cell (blk_alloc B3 o) 1).trans rfl
      have p2 : ∀ o, (w3.alloc o).cell? ⟨w.heap.size, 2, none⟩ = some (.slice A d.length cap) := fun o => (blk_cell (blk_alloc B3 o) 2).trans rfl
      have K3 := Lib.hid k3
      have KK3 := Lib.hid (fun o => (KK2.out.trans k3.kp).alloc o)
      clear k3 B3
      go_wp2_with fail
      refine (same_any (H.out.kpNo (KK3.out _)) (K3.out.own.rd.alloc _) HX.out (tkD_lt X) h (tkH X) n (tkN X)).mono ?_
      rintro e w4 ⟨rfl, k4⟩
      rw [E2.out]
      have KK4 := Lib.hid ((KK3.out _).trans k4)
      clear k4
      go_wp2_with fail
      refine (take_any (HB.out.kpNo KK4.out) hbl HBB.out).mono ?_
      rintro e w5 ⟨v5, rfl, k5⟩
      rw [← HBH.out, ← HBN.out, ← HBE.out]
      rw [← HBD.out] at k5
      obtain ⟨A5, c5, rfl⟩ := k5.own.rd.shape
      have K5 := Lib.hid k5
      have KK5 := Lib.hid (fun o => (KK4.out.trans k5.kp).alloc o)
      have B5 := Lib.hid (fun x y z => blk_new w5 (.cells #[x, y, z] 25))
      clear k5
      go_wp2_with fail
      refine (lay_any (K5.out.own.rd.alloc _) bh bn HN1.out HBDX.out).mono ?_
      rintro e w6 ⟨v6, rfl, k6⟩
      obtain ⟨A6, c6, rfl⟩ := k6.own.rd.shape
      have B6 := k6.kp.blk (B5.out _ _ _) (no_no _)
      have r0 : w6.cell? ⟨w5.heap.size, 0, none⟩ = some (.bool bh) := (blk_cell B6 0).trans rfl
      have r1 : w6.cell? ⟨w5.heap.size, 1, none⟩ = some (.int .u64 (bn : Int)) := (blk_cell B6 1).trans rfl
      have r2 : w6.cell? ⟨w5.heap.size, 2, none⟩ = some (.slice A5 bd.length c5) := (blk_cell B6 2).trans rfl
      have KK6 := Lib.hid ((KK5.out _).trans k6.kp)
      have R5 := Lib.hid ((K5.out.own.rd.alloc (.cells #[.bool bh, .int .u64 (bn : Int), .slice A5 bd.length c5] 25)).kpNo k6.kp)
      clear k6 B6
      go_wp2_with fail
      refine (same_any R5.out (Rd.nil BK w6) HBDX.out (fun x hx => by simp at hx) bh false bn 0).mono ?_
      rintro e w7 ⟨rfl, k7⟩
      rw [HS.out]
      have KK7 := Lib.hid (KK6.out.trans k7)
      clear k7
      go_wp2
      go_ret
      exact ⟨rfl, KK7.out⟩
  · subst e2
    have e3 : (er != 0) = true := by simpa using e1
    rcases h2 with ⟨rfl, rfl, g2, g3⟩ | ⟨rfl, rfl, g2, g3, g4⟩
    · have G1 := Lib.hid g2; have G3 := Lib.hid g3
      clear g2 g3
      go_enter Try.func5, Try.ntmps5
      go_wp2_with fail
      refine (shown14 _).mono ?_
      rintro e w1 ⟨rfl, k1⟩
      have B1 := k1.blk HBX.out (no_no _)
      have b0 : w1.cell? ⟨w.heap.size, 0, none⟩ = some (.bool h) := (blk_cell B1 0).trans rfl
      have b1 : w1.cell? ⟨w.heap.size, 1, none⟩ = some (.int .u64 (n : Int)) := (blk_cell B1 1).trans rfl
      have b2 : w1.cell? ⟨w.heap.size, 2, none⟩ = some (.slice A d.length cap) := (blk_cell B1 2).trans rfl
      have K1 := Lib.hid (((Kp.refl No w).alloc _).trans k1)
      have BB := Lib.hid B1
      clear k1 B1
      go_wp2_with fail
      refine (lay_any (H.out.kpNo K1.out) h n HN.out HX.out).mono ?_
      rintro e w2 ⟨v2, rfl, k2⟩
      rw [← HER.out]
      rw [← HXE.out] at k2
      obtain ⟨A2, c2, rfl⟩ := k2.own.rd.shape
      have K2 := Lib.hid k2
      have KK2 := Lib.hid (K1.out.trans k2.kp)
      have BB2 := Lib.hid (k2.kp.blk BB.out (no_no _))
      clear k2
      go_wp2_with fail
      refine (take_any K2.out.own.rd hXl HXX.out).mono ?_
      rintro e w3 ⟨v3, rfl, k3⟩
      obtain ⟨A3, c3, rfl⟩ := k3.own.rd.shape
      have B3 := k3.kp.blk BB2.out (no_no _)
      have p0 : ∀ o, (w3.alloc o).cell? ⟨w.heap.size, 0, none⟩ = some (.bool h) := fun o => (blk_cell (blk_alloc B3 o) 0).trans rfl
      have p1 : ∀ o, (w3.alloc o).cell? ⟨w.heap.size, 1, none⟩ = some (.int .u64 (n : Int)) := fun o => (blk_cell (blk_alloc B3 o) 1).trans rfl
      have p2 : ∀ o, (w3.alloc o).cell? ⟨w.heap.size, 2, none⟩ = some (.slice A d.length cap) := fun o => (blk_cell (blk_alloc B3 o) 2).trans rfl
      have K3 := Lib.hid k3
      have KK3 := Lib.hid (fun o => (KK2.out.trans k3.kp).alloc o)
      clear k3 B3
      go_wp2_with fail
      refine (take_any (HB.out.kpNo (KK3.out _)) hbl HBB.out).mono ?_
      rintro e w5 ⟨v5, rfl, k5⟩
      rw [← HBH.out, ← HBN.out, ← HBE.out]
      rw [← HBD.out] at k5
      obtain ⟨A5, c5, rfl⟩ := k5.own.rd.shape
      have K5 := Lib.hid k5
      have KK5 := Lib.hid (fun o => ((KK3.out _).trans k5.kp).alloc o)
      have B5 := Lib.hid (fun x y z => blk_new w5 (.cells #[x, y, z] 25))
      clear k5
      go_wp2_with fail
      refine (lay_any (K5.out.own.rd.alloc _) bh bn HN1.out HBDX.out).mono ?_
      rintro e w6 ⟨v6, rfl, k6⟩
      rw [G1.out]
      rw [G3.out] at k6
      obtain ⟨A6, c6, rfl⟩ := k6.own.rd.shape
      have KK6 := Lib.hid ((KK5.out _).trans k6.kp)
      have hst6 := k6.own.rd.str
      have hstb := (HB.out.kpNo KK6.out).str
      clear k6
      go_wp2
      go_ret
      exact ⟨rfl, KK6.out⟩
    · have HS := Lib.hid (show sameP bh false bn 0 bd [] = true by rw [g2, g3, g4]; rfl)
      clear g2 g3 g4
      go_enter Try.func5, Try.ntmps5
      go_wp2_with fail
      refine (shown14 _).mono ?_
      rintro e w1 ⟨rfl, k1⟩
      have B1 := k1.blk HBX.out (no_no _)
      have b0 : w1.cell? ⟨w.heap.size, 0, none⟩ = some (.bool h) := (blk_cell B1 0).trans rfl
      have b1 : w1.cell? ⟨w.heap.size, 1, none⟩ = some (.int .u64 (n : Int)) := (blk_cell B1 1).trans rfl
      have b2 : w1.cell? ⟨w.heap.size, 2, none⟩ = some (.slice A d.length cap) := (blk_cell B1 2).trans rfl
      have K1 := Lib.hid (((Kp.refl No w).alloc _).trans k1)
      have BB := Lib.hid B1
      clear k1 B1
      go_wp2_with fail
      refine (lay_any (H.out.kpNo K1.out) h n HN.out HX.out).mono ?_
      rintro e w2 ⟨v2, rfl, k2⟩
      rw [← HER.out]
      rw [← HXE.out] at k2
      obtain ⟨A2, c2, rfl⟩ := k2.own.rd.shape
      have K2 := Lib.hid k2
      have KK2 := Lib.hid (K1.out.trans k2.kp)
      have BB2 := Lib.hid (k2.kp.blk BB.out (no_no _))
      clear k2
      go_wp2_with fail
      refine (take_any K2.out.own.rd hXl HXX.out).mono ?_
      rintro e w3 ⟨v3, rfl, k3⟩
      obtain ⟨A3, c3, rfl⟩ := k3.own.rd.shape
      have B3 := k3.kp.blk BB2.out (no_no _)
      have p0 : ∀ o, (w3.alloc o).cell? ⟨w.heap.size, 0, none⟩ = some (.bool h) := fun o => (blk_cell (blk_alloc B3 o) 0).trans rfl
      have p1 : ∀ o, (w3.alloc o).cell? ⟨w.heap.size, 1, none⟩ = some (.int .u64 (n : Int)) := fun o => (blk_cell (blk_alloc B3 o) 1).trans rfl
      have p2 : ∀ o, (w3.alloc o).cell? ⟨w.heap.size, 2, none⟩ = some (.slice A d.length cap) := fun o => (blk_cell (blk_alloc B3 o) 2).trans rfl
      have K3 := Lib.hid k3
      have KK3 := Lib.hid (fun o => (KK2.out.trans k3.kp).alloc o)
      clear k3 B3
      go_wp2_with fail
      refine (take_any (HB.out.kpNo (KK3.out _)) hbl HBB.out).mono ?_
      rintro e w5 ⟨v5, rfl, k5⟩
      rw [← HBH.out, ← HBN.out, ← HBE.out]
      rw [← HBD.out] at k5
      obtain ⟨A5, c5, rfl⟩ := k5.own.rd.shape
      have K5 := Lib.hid k5
      have KK5 := Lib.hid (fun o => ((KK3.out _).trans k5.kp).alloc o)
      have B5 := Lib.hid (fun x y z => blk_new w5 (.cells #[x, y, z] 25))
      clear k5
      go_wp2_with fail
      refine (lay_any (K5.out.own.rd.alloc _) bh bn HN1.out HBDX.out).mono ?_
      rintro e w6 ⟨v6, rfl, k6⟩
      obtain ⟨A6, c6, rfl⟩ := k6.own.rd.shape
      have B6 := k6.kp.blk (B5.out _ _ _) (no_no _)
      have r0 : w6.cell? ⟨w5.heap.size, 0, none⟩ = some (.bool bh) := (blk_cell B6 0).trans rfl
      have r1 : w6.cell? ⟨w5.heap.size, 1, none⟩ = some (.int .u64 (bn : Int)) := (blk_cell B6 1).trans rfl
      have r2 : w6.cell? ⟨w5.heap.size, 2, none⟩ = some (.slice A5 bd.length c5) := (blk_cell B6 2).trans rfl
      have KK6 := Lib.hid ((KK5.out _).trans k6.kp)
      have R5 := Lib.hid ((K5.out.own.rd.alloc (.cells #[.bool bh, .int .u64 (bn : Int), .slice A5 bd.length c5] 25)).kpNo k6.kp)
      clear k6 B6
      go_wp2_with fail
      refine (same_any R5.out (Rd.nil BK w6) HBDX.out (fun x hx => by simp at hx) bh false bn 0).mono ?_
      rintro e w7 ⟨rfl, k7⟩
      rw [HS.out]
      have KK7 := Lib.hid (KK6.out.trans k7)
      clear k7
      go_wp2
      go_ret
      exact ⟨rfl, KK7.out⟩
end Go.Proofs.Ytnejjjoedmefkaa
