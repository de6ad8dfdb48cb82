/- carfaxref17: TakeAct; robots, as the laws use them: the state alone; Arguments that are slices of rows: what they read as. No function of the program; Arguments: bytes, packets; Slices of bytes in rows; Slices of slices of bytes; net.Net: New, Send, Peek, Take, Lose; net.Net: Peek, Take, Lose; world: the memory: units (a robot, the networks to it and from it), pods; world, plain: units, pods; what is sent, what comes, what is done. No function of the program; world: unit, has; what nil robots and networks answer; Len; Floors, plain: cells, kinds, what is beside, what may be. No function of the program; One int is appended to a slice in new memory. No condition. -/
import Derived.Test.YtfpikgkbccgchaaGreatDoorM5
import Derived.Test.YtfpikgkbccgchaaGreatDoorM2
import Derived.Test.YtfpikgkbccgchaaGreatDoorM3
import Derived.Test.YtfpikgkbccgchaaGreatDoorM1
import Derived.Deep.Slices
import Derived.ProofKit
import Derived.Test.YtfpikgkbccgchaaGreatDoorM4
import Derived.OpenShut
import Derived.Lib.SmallJoins
import Derived.StillTailTactics
import Derived.Deep.RegionHeld3
import Derived.Deep.RegionLaw
import Derived.Deep.CutBlock
import Derived.Deep.DeepCutAuto
import Derived.Deep.Cut
import Derived.Deep.CutRange

namespace Go.Proofs.YtfpikgkbccgchaaGreatDoor
set_option linter.unusedVariables false
set_option linter.unusedSimpArgs false
open Go.RowKit

set_option maxHeartbeats 1000000 in
set_option maxRecDepth 100000 in
theorem rtakeA_any {w : World} {v : Value} {B : List Nat} (h : Rd BK w v B) (hB : B.length ≤ 100000) (hx : ∀ x ∈ B, x < 256) : Calls Tryz.prog 126 #[v] w (TakeAR B w) := by
  obtain ⟨A, cap, rfl⟩ := h.shape
  obtain ⟨L, hL⟩ : ∃ L, L = unpackB B := ⟨_, rfl⟩
  obtain ⟨n1, hn1⟩ : ∃ n1, n1 = rgetN L 0 0 2 := ⟨_, rfl⟩
  obtain ⟨f1, hf1⟩ : ∃ f1, f1 = rgetF L 0 0 2 := ⟨_, rfl⟩
  obtain ⟨k, hk⟩ : ∃ k, k = rgetV L 0 0 2 := ⟨_, rfl⟩
  obtain ⟨n2, hn2⟩ : ∃ n2, n2 = rgetN L n1 f1 8 := ⟨_, rfl⟩
  obtain ⟨f2, hf2⟩ : ∃ f2, f2 = rgetF L n1 f1 8 := ⟨_, rfl⟩
  obtain ⟨c, hc⟩ : ∃ c, c = rgetV L n1 f1 8 := ⟨_, rfl⟩
  obtain ⟨n3, hn3⟩ : ∃ n3, n3 = rgetN L n2 f2 6 := ⟨_, rfl⟩
  obtain ⟨f3, hf3⟩ : ∃ f3, f3 = rgetF L n2 f2 6 := ⟨_, rfl⟩
  obtain ⟨p, hp⟩ : ∃ p, p = rgetV L n2 f2 6 := ⟨_, rfl⟩
  have T : TaV L n1 f1 n2 f2 n3 f3 k c p := ⟨hn1, hf1, hk, hn2, hf2, hc, hn3, hf3, hp⟩
  rw [hL] at T
  have hkl : k < 4 := by rw [hk]; exact rgetV_lt _ _ _ _
  have hcl : c < 256 := by rw [hc]; exact rgetV_lt _ _ _ _
  have hpl : p < 64 := by rw [hp]; exact rgetV_lt _ _ _ _
  have hl : L.length = 8 * B.length := by rw [hL]; exact unpackB_len B
  have hL8 : L.length ≤ 8000000 := by omega
  have hb1 : n1 ≤ L.length := by rw [hn1]; exact rgetN_le _ _ _ _ (by omega)
  have hb2 : n2 ≤ L.length := by rw [hn2]; exact rgetN_le _ _ _ _ (by omega)
  have HT := Lib.hid T
  have HL := Lib.hid hL
  have HN1 := Lib.hid hn1; have HF1 := Lib.hid hf1; have HK := Lib.hid hk; have HN2 := Lib.hid hn2; have HF2 := Lib.hid hf2; have HC := Lib.hid hc; have HN3 := Lib.hid hn3; have HF3 := Lib.hid hf3; have HP := Lib.hid hp
  have H := Lib.hid h; have HX := Lib.hid hx
  have i1 : (k : Int) < 256 := by omega
  have i2 : (c : Int) < 256 := by omega
  have i3 : (p : Int) < 64 := by omega
  obtain ⟨Y, hY⟩ : ∃ Y, Y = layA k (c : Int) (p : Int) := ⟨_, rfl⟩
  obtain ⟨E, hE⟩ : ∃ E, E = layAE k (c : Int) (p : Int) := ⟨_, rfl⟩
  have hcase : ((E != 0) = true ∧ tkaOk B = false) ∨ ((E != 0) = false ∧ Y ≠ B ∧ tkaOk B = false) ∨ ((E != 0) = false ∧ Y = B ∧ tkaOk B = true ∧ k = aK B ∧ c = aC B ∧ p = aP B) := by
    cases hm : mayA k (c : Int) (p : Int)
    · refine .inl ⟨by rw [hE]; unfold layAE; rw [hm]; rfl, ?_⟩
      unfold tkaOk
      by_cases hB2 : B.length = 2
      · obtain ⟨t1, t2, t3, _⟩ := T.two hB2
        rw [← t1, ← t2, ← t3, hm]; simp
      · simp [hB2]
    · have he : (E != 0) = false := by rw [hE]; unfold layAE; rw [hm]; rfl
      by_cases hB2 : B.length = 2
      · obtain ⟨t1, t2, t3, _⟩ := T.two hB2
        have ho : tkaOk B = true := by unfold tkaOk; rw [← t1, ← t2, ← t3, hm, hB2]; rfl
        exact .inr (.inr ⟨he, by rw [hY, t1, t2, t3]; exact lay_take hx ho, ho, t1, t2, t3⟩)
      · refine .inr (.inl ⟨he, fun e => hB2 ?_, by unfold tkaOk; simp [hB2]⟩)
        rw [← e, hY]; exact layA_len hm
  have HY := Lib.hid hY; have HE := Lib.hid hE
  have HYX := Lib.hid (show ∀ x ∈ Y, x < 256 by rw [hY]; exact layA_lt _ _ _)
  clear T h hx hl hL hn1 hf1 hk hn2 hf2 hc hn3 hf3 hp hY hE HT
  rcases hcase with ⟨hE1, hok⟩ | ⟨hE1, hne, hok⟩ | ⟨hE1, hYB, hok, t1, t2, t3⟩
  · have ERR : Hid (∀ w', Kp No w w' → TakeAR B w (.returned (.tuple #[.agg #[.int .u8 0, .int .i64 0, .int .i64 0], .int .i64 170])) w') := Lib.hid fun w' hk => by
      unfold TakeAR tkaK tkaC tkaP tkaE
      rw [hok]; exact ⟨rfl, hk⟩
    clear hok
    go_enter Tryz.func126, Tryz.ntmps126
    go_wp2_with fail
    refine (rof_any (H.out.kpNo ((Kp.refl No w).alloc _)) hB HX.out).mono ?_
    rintro e w1 ⟨q, rfl, V, a1⟩
    rw [← HL.out] at a1
    obtain ⟨br, hbr⟩ : ∃ br, br = w.heap.size := ⟨_, rfl⟩
    have R1 := Lib.hid (show w1.heap[br]? = some (.cells #[.int .u8 0, .int .i64 0, .int .i64 0] 40 (0, 0)) by rw [hbr]; exact a1.kp.blk (blk_new w _) (no_no _))
    have A1 := Lib.hid a1.at; have K1 := Lib.hid (show Kp No w w1 from ((Kp.refl No w).alloc _).trans a1.kp)
    have G1 := Lib.hid (show br < q by rw [hbr]; have := a1.po; simp at this; omega)
    have L1 := Lib.hid (show q < w1.heap.size from lt_of_block a1.blk)
    have VO := Lib.hid (show ∀ g, V.ownBlock = some g → br < g ∧ g < w1.heap.size from fun g hg => ⟨by have := a1.vo g hg; rw [hbr]; simp at this; omega, a1.own.lt hg⟩)
    have HBR := Lib.hid hbr
    rw [← hbr]
    clear a1 hbr
    go_wp2_with fail
    refine (qget_any A1.out hL8 (Nat.zero_le _) 2 (by decide) _ rfl).mono ?_
    rintro e w2 ⟨rfl, a2⟩
    rw [← HN1.out, ← HF1.out] at a2
    rw [← HK.out]
    have A2 := Lib.hid a2.here
    have R2 := Lib.hid (a2.kp.blk R1.out (fun e => by have e : br = q := e; have := G1.out; omega))
    have K2 := Lib.hid (K1.out.newer a2.kp (by have := G1.out; have := HBR.out; omega))
    have Z2 := Lib.hid (Nat.lt_of_lt_of_le L1.out a2.kp.size)
    have ZV := Lib.hid (show ∀ g, V.ownBlock = some g → br < g ∧ g < w2.heap.size from fun g hg => ⟨(VO.out g hg).1, Nat.lt_of_lt_of_le (VO.out g hg).2 a2.kp.size⟩)
    obtain ⟨bx, hbx⟩ : ∃ bx, bx = w2.heap.size := ⟨_, rfl⟩
    have HBX := Lib.hid hbx
    have hbrx : br < bx := by have := G1.out; have := Z2.out; omega
    clear a2
    go_wp2_with fail
    refine (qget_any (A2.out.kpNo ((Kp.refl No w2).alloc (.cells #[.int .u8 (k : Int), .int .i64 0, .int .i64 0] 40))).here hL8 hb1 8 (by decide) _ rfl).mono ?_
    rintro e w3 ⟨rfl, a3⟩
    rw [← HN2.out, ← HF2.out] at a3
    rw [← HC.out, ← hbx]
    have X3 := Lib.hid (show w3.heap[bx]? = some (.cells #[.int .u8 (k : Int), .int .i64 0, .int .i64 0] 40 (0, 0)) by rw [hbx]; exact a3.kp.blk (blk_new w2 _) (fun e => by have e : w2.heap.size = q := e; have := Z2.out; omega))
    have R3 := Lib.hid (a3.kp.blk (blk_alloc R2.out _) (fun e => by have e : br = q := e; have := G1.out; omega))
    have A3 := Lib.hid a3.here
    have K3 := Lib.hid ((K2.out.alloc _).newer a3.kp (by have := G1.out; have := HBR.out; omega))
    have y1 : w3.cell? ⟨bx, 1, none⟩ = some (.int .i64 0) := (blk_cell X3.out 1).trans rfl
    have y1f : w3.frozen? ⟨bx, 1, none⟩ = false := blk_free X3.out 1
    have NQ := Lib.hid (show ¬ (q = bx) by have := Z2.out; omega)
    have NV := Lib.hid (show ∀ g, V.ownBlock = some g → ¬ (g = bx) from fun g hg e => by have := (ZV.out g hg).2; omega)
    clear a3 hbx
    go_wp2_with fail
    refine (qget_any (A3.out.far (Kp.one (p := bx) 1 (.int .i64 (c : Int))) NQ.out NV.out) hL8 hb2 6 (by decide) _ rfl).mono ?_
    rintro e w4 ⟨rfl, a4⟩
    rw [← HN3.out, ← HF3.out] at a4
    rw [← HP.out]
    have X4 := Lib.hid (show w4.heap[bx]? = some (.cells #[.int .u8 (k : Int), .int .i64 (c : Int), .int .i64 0] 40 (0, 0)) from a4.kp.blk ((blk_set X3.out 1 _).trans rfl) (fun e => NQ.out e.symm))
    have R4 := Lib.hid (a4.kp.blk (blk_far R3.out (p := ⟨bx, 1, none⟩) (by show br ≠ bx; omega) (.int .i64 (c : Int))) (fun e => by have e : br = q := e; have := G1.out; omega))
    have K4 := Lib.hid ((K3.out.newer (Kp.one (p := bx) 1 (.int .i64 (c : Int))) (by have := HBR.out; omega)).newer a4.kp (by have := G1.out; have := HBR.out; omega))
    have y2 : w4.cell? ⟨bx, 2, none⟩ = some (.int .i64 0) := (blk_cell X4.out 2).trans rfl
    have y2f : w4.frozen? ⟨bx, 2, none⟩ = false := blk_free X4.out 2
    clear a4
    have X4s := blk_set X4.out 2 (.int .i64 (p : Int))
    have z0 : (w4.setCell ⟨bx, 2, none⟩ (.int .i64 (p : Int))).cell? ⟨bx, 0, none⟩ = some (.int .u8 (k : Int)) := (blk_cell X4s 0).trans rfl
    have z1 : (w4.setCell ⟨bx, 2, none⟩ (.int .i64 (p : Int))).cell? ⟨bx, 1, none⟩ = some (.int .i64 (c : Int)) := (blk_cell X4s 1).trans rfl
    have z2 : (w4.setCell ⟨bx, 2, none⟩ (.int .i64 (p : Int))).cell? ⟨bx, 2, none⟩ = some (.int .i64 (p : Int)) := (blk_cell X4s 2).trans rfl
    clear X4s
    go_wp2_with fail
    refine (layAct_any k (c : Int) (p : Int) (by omega) _).mono ?_
    rintro e w7 ⟨v7, rfl, k7⟩
    rw [← HE.out]
    rw [← HY.out] at k7
    obtain ⟨A7, c7, rfl⟩ := k7.own.rd.shape
    have X7 := Lib.hid (show w7.heap[bx]? = some (.cells #[.int .u8 (k : Int), .int .i64 (c : Int), .int .i64 (p : Int)] 40 (0, 0)) from k7.kp.blk ((blk_set X4.out 2 _).trans rfl) (no_no _))
    have R7 := Lib.hid (k7.kp.blk (blk_far R4.out (p := ⟨bx, 2, none⟩) (by show br ≠ bx; omega) (.int .i64 (p : Int))) (no_no _))
    have K7 := Lib.hid ((K4.out.newer (Kp.one (p := bx) 2 (.int .i64 (p : Int))) (by have := HBR.out; omega)).trans k7.kp)
    have s1 := k7.own.rd.str
    have s2 := (H.out.kpNo K7.out).str
    clear k7
    have u0 : w7.cell? ⟨br, 0, none⟩ = some (.int .u8 0) := (blk_cell R7.out 0).trans rfl
    have u1 : w7.cell? ⟨br, 1, none⟩ = some (.int .i64 0) := (blk_cell R7.out 1).trans rfl
    have u2 : w7.cell? ⟨br, 2, none⟩ = some (.int .i64 0) := (blk_cell R7.out 2).trans rfl
    have v0 : w7.frozen? ⟨br, 0, none⟩ = false := blk_free R7.out 0
    have v1 : w7.frozen? ⟨br, 1, none⟩ = false := blk_free R7.out 1
    have v2 : w7.frozen? ⟨br, 2, none⟩ = false := blk_free R7.out 2
    go_wp2
    have bE := blk_set (blk_set (blk_set R7.out 0 (.int .u8 0)) 1 (.int .i64 0)) 2 (.int .i64 0)
    have r0 := (blk_cell bE 0).trans rfl
    have r1 := (blk_cell bE 1).trans rfl
    have r2 := (blk_cell bE 2).trans rfl
    have kE := ((K7.out.newer (Kp.one (w := w7) (p := br) 0 (.int .u8 0)) (by have := HBR.out; omega)).newer (Kp.one (p := br) 1 (.int .i64 0)) (by have := HBR.out; omega)).newer (Kp.one (p := br) 2 (.int .i64 0)) (by have := HBR.out; omega)
    exact bodyPost_ret (v := .tuple #[.agg #[.int .u8 0, .int .i64 0, .int .i64 0], .int .i64 170]) (by simp [results, Tryz.results126, go_sem, r0, r1, r2]) rfl (ERR.out _ kE)
  · have sb := strB_beq HYX.out HX.out
    rw [decide_eq_false hne] at sb
    have sn : ((strB Y).toList != (strB B).toList) = true := by rw [bne, sb]; rfl
    have ERR : Hid (∀ w', Kp No w w' → TakeAR B w (.returned (.tuple #[.agg #[.int .u8 0, .int .i64 0, .int .i64 0], .int .i64 170])) w') := Lib.hid fun w' hk => by
      unfold TakeAR tkaK tkaC tkaP tkaE
      rw [hok]; exact ⟨rfl, hk⟩
    clear hok
    clear hne
    go_enter Tryz.func126, Tryz.ntmps126
    go_wp2_with fail
    refine (rof_any (H.out.kpNo ((Kp.refl No w).alloc _)) hB HX.out).mono ?_
    rintro e w1 ⟨q, rfl, V, a1⟩
    rw [← HL.out] at a1
    obtain ⟨br, hbr⟩ : ∃ br, br = w.heap.size := ⟨_, rfl⟩
    have R1 := Lib.hid (show w1.heap[br]? = some (.cells #[.int .u8 0, .int .i64 0, .int .i64 0] 40 (0, 0)) by rw [hbr]; exact a1.kp.blk (blk_new w _) (no_no _))
    have A1 := Lib.hid a1.at; have K1 := Lib.hid (show Kp No w w1 from ((Kp.refl No w).alloc _).trans a1.kp)
    have G1 := Lib.hid (show br < q by rw [hbr]; have := a1.po; simp at this; omega)
    have L1 := Lib.hid (show q < w1.heap.size from lt_of_block a1.blk)
    have VO := Lib.hid (show ∀ g, V.ownBlock = some g → br < g ∧ g < w1.heap.size from fun g hg => ⟨by have := a1.vo g hg; rw [hbr]; simp at this; omega, a1.own.lt hg⟩)
    have HBR := Lib.hid hbr
    rw [← hbr]
    clear a1 hbr
    go_wp2_with fail
    refine (qget_any A1.out hL8 (Nat.zero_le _) 2 (by decide) _ rfl).mono ?_
    rintro e w2 ⟨rfl, a2⟩
    rw [← HN1.out, ← HF1.out] at a2
    rw [← HK.out]
    have A2 := Lib.hid a2.here
    have R2 := Lib.hid (a2.kp.blk R1.out (fun e => by have e : br = q := e; have := G1.out; omega))
    have K2 := Lib.hid (K1.out.newer a2.kp (by have := G1.out; have := HBR.out; omega))
    have Z2 := Lib.hid (Nat.lt_of_lt_of_le L1.out a2.kp.size)
    have ZV := Lib.hid (show ∀ g, V.ownBlock = some g → br < g ∧ g < w2.heap.size from fun g hg => ⟨(VO.out g hg).1, Nat.lt_of_lt_of_le (VO.out g hg).2 a2.kp.size⟩)
    obtain ⟨bx, hbx⟩ : ∃ bx, bx = w2.heap.size := ⟨_, rfl⟩
    have HBX := Lib.hid hbx
    have hbrx : br < bx := by have := G1.out; have := Z2.out; omega
    clear a2
    go_wp2_with fail
    refine (qget_any (A2.out.kpNo ((Kp.refl No w2).alloc (.cells #[.int .u8 (k : Int), .int .i64 0, .int .i64 0] 40))).here hL8 hb1 8 (by decide) _ rfl).mono ?_
    rintro e w3 ⟨rfl, a3⟩
    rw [← HN2.out, ← HF2.out] at a3
    rw [← HC.out, ← hbx]
    have X3 := Lib.hid (show w3.heap[bx]? = some (.cells #[.int .u8 (k : Int), .int .i64 0, .int .i64 0] 40 (0, 0)) by rw [hbx]; exact a3.kp.blk (blk_new w2 _) (fun e => by have e : w2.heap.size = q := e; have := Z2.out; omega))
    have R3 := Lib.hid (a3.kp.blk (blk_alloc R2.out _) (fun e => by have e : br = q := e; have := G1.out; omega))
    have A3 := Lib.hid a3.here
    have K3 := Lib.hid ((K2.out.alloc _).newer a3.kp (by have := G1.out; have := HBR.out; omega))
    have y1 : w3.cell? ⟨bx, 1, none⟩ = some (.int .i64 0) := (blk_cell X3.out 1).trans rfl
    have y1f : w3.frozen? ⟨bx, 1, none⟩ = false := blk_free X3.out 1
    have NQ := Lib.hid (show ¬ (q = bx) by have := Z2.out; omega)
    have NV := Lib.hid (show ∀ g, V.ownBlock = some g → ¬ (g = bx) from fun g hg e => by have := (ZV.out g hg).2; omega)
    clear a3 hbx
    go_wp2_with fail
    refine (qget_any (A3.out.far (Kp.one (p := bx) 1 (.int .i64 (c : Int))) NQ.out NV.out) hL8 hb2 6 (by decide) _ rfl).mono ?_
    rintro e w4 ⟨rfl, a4⟩
    rw [← HN3.out, ← HF3.out] at a4
    rw [← HP.out]
    have X4 := Lib.hid (show w4.heap[bx]? = some (.cells #[.int .u8 (k : Int), .int .i64 (c : Int), .int .i64 0] 40 (0, 0)) from a4.kp.blk ((blk_set X3.out 1 _).trans rfl) (fun e => NQ.out e.symm))
    have R4 := Lib.hid (a4.kp.blk (blk_far R3.out (p := ⟨bx, 1, none⟩) (by show br ≠ bx; omega) (.int .i64 (c : Int))) (fun e => by have e : br = q := e; have := G1.out; omega))
    have K4 := Lib.hid ((K3.out.newer (Kp.one (p := bx) 1 (.int .i64 (c : Int))) (by have := HBR.out; omega)).newer a4.kp (by have := G1.out; have := HBR.out; omega))
    have y2 : w4.cell? ⟨bx, 2, none⟩ = some (.int .i64 0) := (blk_cell X4.out 2).trans rfl
    have y2f : w4.frozen? ⟨bx, 2, none⟩ = false := blk_free X4.out 2
    clear a4
    have X4s := blk_set X4.out 2 (.int .i64 (p : Int))
    have z0 : (w4.setCell ⟨bx, 2, none⟩ (.int .i64 (p : Int))).cell? ⟨bx, 0, none⟩ = some (.int .u8 (k : Int)) := (blk_cell X4s 0).trans rfl
    have z1 : (w4.setCell ⟨bx, 2, none⟩ (.int .i64 (p : Int))).cell? ⟨bx, 1, none⟩ = some (.int .i64 (c : Int)) := (blk_cell X4s 1).trans rfl
    have z2 : (w4.setCell ⟨bx, 2, none⟩ (.int .i64 (p : Int))).cell? ⟨bx, 2, none⟩ = some (.int .i64 (p : Int)) := (blk_cell X4s 2).trans rfl
    clear X4s
    go_wp2_with fail
    refine (layAct_any k (c : Int) (p : Int) (by omega) _).mono ?_
    rintro e w7 ⟨v7, rfl, k7⟩
    rw [← HE.out]
    rw [← HY.out] at k7
    obtain ⟨A7, c7, rfl⟩ := k7.own.rd.shape
    have X7 := Lib.hid (show w7.heap[bx]? = some (.cells #[.int .u8 (k : Int), .int .i64 (c : Int), .int .i64 (p : Int)] 40 (0, 0)) from k7.kp.blk ((blk_set X4.out 2 _).trans rfl) (no_no _))
    have R7 := Lib.hid (k7.kp.blk (blk_far R4.out (p := ⟨bx, 2, none⟩) (by show br ≠ bx; omega) (.int .i64 (p : Int))) (no_no _))
    have K7 := Lib.hid ((K4.out.newer (Kp.one (p := bx) 2 (.int .i64 (p : Int))) (by have := HBR.out; omega)).trans k7.kp)
    have s1 := k7.own.rd.str
    have s2 := (H.out.kpNo K7.out).str
    clear k7
    have u0 : w7.cell? ⟨br, 0, none⟩ = some (.int .u8 0) := (blk_cell R7.out 0).trans rfl
    have u1 : w7.cell? ⟨br, 1, none⟩ = some (.int .i64 0) := (blk_cell R7.out 1).trans rfl
    have u2 : w7.cell? ⟨br, 2, none⟩ = some (.int .i64 0) := (blk_cell R7.out 2).trans rfl
    have v0 : w7.frozen? ⟨br, 0, none⟩ = false := blk_free R7.out 0
    have v1 : w7.frozen? ⟨br, 1, none⟩ = false := blk_free R7.out 1
    have v2 : w7.frozen? ⟨br, 2, none⟩ = false := blk_free R7.out 2
    go_wp2
    have bE := blk_set (blk_set (blk_set R7.out 0 (.int .u8 0)) 1 (.int .i64 0)) 2 (.int .i64 0)
    have r0 := (blk_cell bE 0).trans rfl
    have r1 := (blk_cell bE 1).trans rfl
    have r2 := (blk_cell bE 2).trans rfl
    have kE := ((K7.out.newer (Kp.one (w := w7) (p := br) 0 (.int .u8 0)) (by have := HBR.out; omega)).newer (Kp.one (p := br) 1 (.int .i64 0)) (by have := HBR.out; omega)).newer (Kp.one (p := br) 2 (.int .i64 0)) (by have := HBR.out; omega)
    exact bodyPost_ret (v := .tuple #[.agg #[.int .u8 0, .int .i64 0, .int .i64 0], .int .i64 170]) (by simp [results, Tryz.results126, go_sem, r0, r1, r2]) rfl (ERR.out _ kE)
  · subst hYB
    have YES : Hid (∀ w', Kp No w w' → TakeAR Y w (.returned (.tuple #[.agg #[.int .u8 (k : Int), .int .i64 (c : Int), .int .i64 (p : Int)], .int .i64 0])) w') := Lib.hid fun w' hk => by
      unfold TakeAR tkaK tkaC tkaP tkaE
      rw [hok, ← t1, ← t2, ← t3]; exact ⟨rfl, hk⟩
    clear hok t1 t2 t3
    go_enter Tryz.func126, Tryz.ntmps126
    go_wp2_with fail
    refine (rof_any (H.out.kpNo ((Kp.refl No w).alloc _)) hB HX.out).mono ?_
    rintro e w1 ⟨q, rfl, V, a1⟩
    rw [← HL.out] at a1
    obtain ⟨br, hbr⟩ : ∃ br, br = w.heap.size := ⟨_, rfl⟩
    have R1 := Lib.hid (show w1.heap[br]? = some (.cells #[.int .u8 0, .int .i64 0, .int .i64 0] 40 (0, 0)) by rw [hbr]; exact a1.kp.blk (blk_new w _) (no_no _))
    have A1 := Lib.hid a1.at; have K1 := Lib.hid (show Kp No w w1 from ((Kp.refl No w).alloc _).trans a1.kp)
    have G1 := Lib.hid (show br < q by rw [hbr]; have := a1.po; simp at this; omega)
    have L1 := Lib.hid (show q < w1.heap.size from lt_of_block a1.blk)
    have VO := Lib.hid (show ∀ g, V.ownBlock = some g → br < g ∧ g < w1.heap.size from fun g hg => ⟨by have := a1.vo g hg; rw [hbr]; simp at this; omega, a1.own.lt hg⟩)
    have HBR := Lib.hid hbr
    rw [← hbr]
    clear a1 hbr
    go_wp2_with fail
    refine (qget_any A1.out hL8 (Nat.zero_le _) 2 (by decide) _ rfl).mono ?_
    rintro e w2 ⟨rfl, a2⟩
    rw [← HN1.out, ← HF1.out] at a2
    rw [← HK.out]
    have A2 := Lib.hid a2.here
    have R2 := Lib.hid (a2.kp.blk R1.out (fun e => by have e : br = q := e; have := G1.out; omega))
    have K2 := Lib.hid (K1.out.newer a2.kp (by have := G1.out; have := HBR.out; omega))
    have Z2 := Lib.hid (Nat.lt_of_lt_of_le L1.out a2.kp.size)
    have ZV := Lib.hid (show ∀ g, V.ownBlock = some g → br < g ∧ g < w2.heap.size from fun g hg => ⟨(VO.out g hg).1, Nat.lt_of_lt_of_le (VO.out g hg).2 a2.kp.size⟩)
    obtain ⟨bx, hbx⟩ : ∃ bx, bx = w2.heap.size := ⟨_, rfl⟩
    have HBX := Lib.hid hbx
    have hbrx : br < bx := by have := G1.out; have := Z2.out; omega
    clear a2
    go_wp2_with fail
    refine (qget_any (A2.out.kpNo ((Kp.refl No w2).alloc (.cells #[.int .u8 (k : Int), .int .i64 0, .int .i64 0] 40))).here hL8 hb1 8 (by decide) _ rfl).mono ?_
    rintro e w3 ⟨rfl, a3⟩
    rw [← HN2.out, ← HF2.out] at a3
    rw [← HC.out, ← hbx]
    have X3 := Lib.hid (show w3.heap[bx]? = some (.cells #[.int .u8 (k : Int), .int .i64 0, .int .i64 0] 40 (0, 0)) by rw [hbx]; exact a3.kp.blk (blk_new w2 _) (fun e => by have e : w2.heap.size = q := e; have := Z2.out; omega))
    have R3 := Lib.hid (a3.kp.blk (blk_alloc R2.out _) (fun e => by have e : br = q := e; have := G1.out; omega))
    have A3 := Lib.hid a3.here
    have K3 := Lib.hid ((K2.out.alloc _).newer a3.kp (by have := G1.out; have := HBR.out; omega))
    have y1 : w3.cell? ⟨bx, 1, none⟩ = some (.int .i64 0) := (blk_cell X3.out 1).trans rfl
    have y1f : w3.frozen? ⟨bx, 1, none⟩ = false := blk_free X3.out 1
    have NQ := Lib.hid (show ¬ (q = bx) by have := Z2.out; omega)
    have NV := Lib.hid (show ∀ g, V.ownBlock = some g → ¬ (g = bx) from fun g hg e => by have := (ZV.out g hg).2; omega)
    clear a3 hbx
    go_wp2_with fail
    refine (qget_any (A3.out.far (Kp.one (p := bx) 1 (.int .i64 (c : Int))) NQ.out NV.out) hL8 hb2 6 (by decide) _ rfl).mono ?_
    rintro e w4 ⟨rfl, a4⟩
    rw [← HN3.out, ← HF3.out] at a4
    rw [← HP.out]
    have X4 := Lib.hid (show w4.heap[bx]? = some (.cells #[.int .u8 (k : Int), .int .i64 (c : Int), .int .i64 0] 40 (0, 0)) from a4.kp.blk ((blk_set X3.out 1 _).trans rfl) (fun e => NQ.out e.symm))
    have R4 := Lib.hid (a4.kp.blk (blk_far R3.out (p := ⟨bx, 1, none⟩) (by show br ≠ bx; omega) (.int .i64 (c : Int))) (fun e => by have e : br = q := e; have := G1.out; omega))
    have K4 := Lib.hid ((K3.out.newer (Kp.one (p := bx) 1 (.int .i64 (c : Int))) (by have := HBR.out; omega)).newer a4.kp (by have := G1.out; have := HBR.out; omega))
    have y2 : w4.cell? ⟨bx, 2, none⟩ = some (.int .i64 0) := (blk_cell X4.out 2).trans rfl
    have y2f : w4.frozen? ⟨bx, 2, none⟩ = false := blk_free X4.out 2
    clear a4
    have X4s := blk_set X4.out 2 (.int .i64 (p : Int))
    have z0 : (w4.setCell ⟨bx, 2, none⟩ (.int .i64 (p : Int))).cell? ⟨bx, 0, none⟩ = some (.int .u8 (k : Int)) := (blk_cell X4s 0).trans rfl
    have z1 : (w4.setCell ⟨bx, 2, none⟩ (.int .i64 (p : Int))).cell? ⟨bx, 1, none⟩ = some (.int .i64 (c : Int)) := (blk_cell X4s 1).trans rfl
    have z2 : (w4.setCell ⟨bx, 2, none⟩ (.int .i64 (p : Int))).cell? ⟨bx, 2, none⟩ = some (.int .i64 (p : Int)) := (blk_cell X4s 2).trans rfl
    clear X4s
    go_wp2_with fail
    refine (layAct_any k (c : Int) (p : Int) (by omega) _).mono ?_
    rintro e w7 ⟨v7, rfl, k7⟩
    rw [← HE.out]
    rw [← HY.out] at k7
    obtain ⟨A7, c7, rfl⟩ := k7.own.rd.shape
    have X7 := Lib.hid (show w7.heap[bx]? = some (.cells #[.int .u8 (k : Int), .int .i64 (c : Int), .int .i64 (p : Int)] 40 (0, 0)) from k7.kp.blk ((blk_set X4.out 2 _).trans rfl) (no_no _))
    have R7 := Lib.hid (k7.kp.blk (blk_far R4.out (p := ⟨bx, 2, none⟩) (by show br ≠ bx; omega) (.int .i64 (p : Int))) (no_no _))
    have K7 := Lib.hid ((K4.out.newer (Kp.one (p := bx) 2 (.int .i64 (p : Int))) (by have := HBR.out; omega)).trans k7.kp)
    have s1 := k7.own.rd.str
    have s2 := (H.out.kpNo K7.out).str
    clear k7
    have x3 : w7.cell? ⟨bx, 0, none⟩ = some (.int .u8 (k : Int)) := (blk_cell X7.out 0).trans rfl
    have x4 : w7.cell? ⟨bx, 1, none⟩ = some (.int .i64 (c : Int)) := (blk_cell X7.out 1).trans rfl
    have x5 : w7.cell? ⟨bx, 2, none⟩ = some (.int .i64 (p : Int)) := (blk_cell X7.out 2).trans rfl
    have u0 : w7.cell? ⟨br, 0, none⟩ = some (.int .u8 0) := (blk_cell R7.out 0).trans rfl
    have u1 : w7.cell? ⟨br, 1, none⟩ = some (.int .i64 0) := (blk_cell R7.out 1).trans rfl
    have u2 : w7.cell? ⟨br, 2, none⟩ = some (.int .i64 0) := (blk_cell R7.out 2).trans rfl
    have v0 : w7.frozen? ⟨br, 0, none⟩ = false := blk_free R7.out 0
    have v1 : w7.frozen? ⟨br, 1, none⟩ = false := blk_free R7.out 1
    have v2 : w7.frozen? ⟨br, 2, none⟩ = false := blk_free R7.out 2
    go_wp2
    have bE := blk_set (blk_set (blk_set R7.out 0 (.int .u8 (k : Int))) 1 (.int .i64 (c : Int))) 2 (.int .i64 (p : Int))
    have r0 := (blk_cell bE 0).trans rfl
    have r1 := (blk_cell bE 1).trans rfl
    have r2 := (blk_cell bE 2).trans rfl
    have kE := ((K7.out.newer (Kp.one (w := w7) (p := br) 0 (.int .u8 (k : Int))) (by have := HBR.out; omega)).newer (Kp.one (p := br) 1 (.int .i64 (c : Int))) (by have := HBR.out; omega)).newer (Kp.one (p := br) 2 (.int .i64 (p : Int))) (by have := HBR.out; omega)
    exact bodyPost_ret (v := .tuple #[.agg #[.int .u8 (k : Int), .int .i64 (c : Int), .int .i64 (p : Int)], .int .i64 0]) (by simp [results, Tryz.results126, go_sem, r0, r1, r2]) rfl (YES.out _ kE)
end Go.Proofs.YtfpikgkbccgchaaGreatDoor

namespace Go.Proofs.YtfpikgkbccgchaaGreatDoor
set_option linter.unusedVariables false
set_option linter.unusedSimpArgs false
open Go.RowKit

/-- Only robots, receivers and senders were written. -/
def KeepB (w w' : World) : Prop := ∃ S, Kp S w w' ∧ Ty w S [147, 185, 187]
theorem KeepB.own {w w' : World} (h : KeepB w w') {α : Type} {K : Kd α} {e : TypeId} {v : Value} {l : List α} (o : Own K e w v l) (he : e ∉ [147, 185, 187]) : Own K e w' v l :=
  let ⟨_, hk, ht⟩ := h
  o.kp hk (ht.notO o he)
theorem KeepB.no {w w' : World} (hk : Kp No w w') : KeepB w w' := ⟨No, hk, fun _ h => h.elim⟩

/-- A robot that was made since w0. -/
structure RobA (w0 : World) (p ph ps : Nat) (R : Rob) (w : World) : Prop where
  ex : ∃ pa V, RobS p ph ps pa V R w
  kp : Kp No w0 w
  p0 : w0.heap.size ≤ p
  h0 : w0.heap.size ≤ ph
  s0 : w0.heap.size ≤ ps
section
variable {w0 w w' : World} {p ph ps : Nat} {R R' : Rob}
theorem RobA.no (h : RobA w0 p ph ps R w) (hk : Kp No w w') : RobA w0 p ph ps R w' := let ⟨pa, V, h1⟩ := h.ex; ⟨⟨pa, V, h1.no hk⟩, h.kp.no hk, h.p0, h.h0, h.s0⟩
theorem RobA.low {w1 : World} (h : RobA w1 p ph ps R w) (hk : Kp No w0 w1) : RobA w0 p ph ps R w := ⟨h.ex, hk.trans h.kp, Nat.le_trans hk.size h.p0, Nat.le_trans hk.size h.h0, Nat.le_trans hk.size h.s0⟩
theorem RobA.far {S : Nat → Prop} {ts : List TypeId} (h : RobA w0 p ph ps R w) (hk : Kp S w w') (hs : Ty w S ts) (ht : 147 ∉ ts ∧ 40 ∉ ts ∧ 185 ∉ ts ∧ 187 ∉ ts ∧ 5 ∉ ts) (hn : ∀ k, S k → w0.heap.size ≤ k) : RobA w0 p ph ps R w' :=
  let ⟨pa, V, h1⟩ := h.ex
  ⟨⟨pa, V, h1.far hk hs ht⟩, h.kp.trans' hk fun k hk e => by have := hn k e; omega, h.p0, h.h0, h.s0⟩
theorem RobTo.a {pa : Option Nat} {V : Value} (h : RobA w0 p ph ps R w) (ht : RobTo p ph ps pa V R' w w') : RobA w0 p ph ps R' w' :=
  let ⟨pa', V', h1, _, _⟩ := ht.tw
  ⟨⟨pa', V', h1⟩, h.kp.trans' ht.kp fun k hk e => by have := h.p0; have := h.h0; have := h.s0; omega, h.p0, h.h0, h.s0⟩

def NewA (dock charge : Int) (w : World) (e : Ending) (w' : World) : Prop :=
  (newRobE dock charge = true ∧ e = .returned (.tuple #[.pointer none, .int .i64 1]) ∧ w = w') ∨
    (newRobE dock charge = false ∧ ∃ p ph ps, e = .returned (.tuple #[.pointer (some ⟨p, 0, none⟩), .int .i64 0]) ∧ RobA w p ph ps (newRob dock charge) w')
theorem newA (dock charge : Int) (w : World) : Calls Tryz.prog 35 #[.int .i64 dock, .int .i64 charge] w (NewA dock charge w) :=
  (newRob_any dock charge w).mono fun _ _ h => h.imp id fun ⟨a, p, ph, ps, b, c, d, e, f, g⟩ => ⟨a, p, ph, ps, b, ⟨⟨_, _, c⟩, d, e, f, g⟩⟩
theorem chargeA (h : RobA w0 p ph ps R w) : Calls Tryz.prog 68 #[.pointer (some ⟨p, 0, none⟩)] w fun e w' => e = .returned (.int .i64 R.charge) ∧ w = w' := let ⟨_, _, h1⟩ := h.ex; charge_any h1
theorem doneA (h : RobA w0 p ph ps R w) : Calls Tryz.prog 69 #[.pointer (some ⟨p, 0, none⟩)] w fun e w' => e = .returned (.int .u64 (R.done : Int)) ∧ w = w' := let ⟨_, _, h1⟩ := h.ex; done_any h1
theorem cellsA (h : RobA w0 p ph ps R w) : Calls Tryz.prog 54 #[.pointer (some ⟨p, 0, none⟩)] w (CellsR (cellsL R) w) := let ⟨_, _, h1⟩ := h.ex; cells_any h1
theorem nextA (h : RobA w0 p ph ps R w) : Calls Tryz.prog 63 #[.pointer (some ⟨p, 0, none⟩)] w (NextR R w) := let ⟨_, _, h1⟩ := h.ex; next_any h1
theorem packetA (h : RobA w0 p ph ps R w) : Calls Tryz.prog 66 #[.pointer (some ⟨p, 0, none⟩)] w (PacketR R.told R.on [] w) := let ⟨_, _, h1⟩ := h.ex; rpkt_any h1
def StepA (w0 : World) (p ph ps : Nat) (R : Rob) (w : World) (e : Ending) (w' : World) : Prop := e = .returned (.bool (stepB R)) ∧ RobA w0 p ph ps (stepS R) w' ∧ KeepB w w'
theorem stepA (h : RobA w0 p ph ps R w) (ok : R.ok) : Calls Tryz.prog 65 #[.pointer (some ⟨p, 0, none⟩)] w (StepA w0 p ph ps R w) :=
  let ⟨_, _, h1⟩ := h.ex
  (step_any h1 ok).mono fun _ _ ⟨a, b⟩ => ⟨a, b.a h, ⟨_, b.kp, h1.ty3⟩⟩
def HeardA (w0 : World) (p ph ps : Nat) (R : Rob) (f : List Nat) (w : World) (e : Ending) (w' : World) : Prop := e = .returned (.bool (heardB R.told R.on f)) ∧ RobA w0 p ph ps (heardS R f) w' ∧ KeepB w w'
theorem heardA (h : RobA w0 p ph ps R w) {v : Value} {f : List Nat} (hv : Rd BK w v f) (hl : f.length ≤ 1000000) (hx : ∀ x ∈ f, x < 256) : Calls Tryz.prog 61 #[.pointer (some ⟨p, 0, none⟩), v] w (HeardA w0 p ph ps R f w) :=
  let ⟨_, _, h1⟩ := h.ex
  (rheard_any h1 hv hl hx).mono fun _ _ ⟨a, b⟩ => ⟨a, b.a h, ⟨_, b.kp, h1.ty3⟩⟩
def HearA (w0 : World) (p ph ps : Nat) (R : Rob) (F : List Nat) (w : World) (e : Ending) (w' : World) : Prop := ∃ v', e = .returned v' ∧ Own BK 5 w' v' (hearB R F) ∧ (∀ g, v'.ownBlock = some g → w.heap.size ≤ g) ∧ RobA w0 p ph ps (hearS R F) w' ∧ KeepB w w'
theorem tkD_len (F : List Nat) : (tkD F).length ≤ 1000000 := by
  unfold tkD
  split
  · rename_i h
    unfold takeOk tOk at h
    simp only [Bool.and_eq_true, decide_eq_true_eq] at h
    unfold tD
    rw [dataP_len]
    omega
  · simp
theorem tkD_byte (f : List Nat) : ∀ x ∈ tkD f, x < 256 := by
  unfold tkD
  split
  · unfold tD; exact dataP_lt _ _ _
  · intro x hx; simp at hx
theorem hearA (h : RobA w0 p ph ps R w) (ok : R.ok) {v : Value} {F : List Nat} (hv : Rd BK w v F) (hl : F.length ≤ 1000000) (hx : ∀ x ∈ F, x < 256) : Calls Tryz.prog 62 #[.pointer (some ⟨p, 0, none⟩), v] w (HearA w0 p ph ps R F w) :=
  let ⟨_, _, h1⟩ := h.ex
  (robHear_any h1 ok hv hl hx (tkD_len F) (tkD_byte F)).mono fun _ _ ⟨v', a, b, c, d⟩ => ⟨v', a, b, c, d.a h, ⟨_, d.kp, h1.ty3⟩⟩
end

/-- The packet by which a robot is told an act. -/
def pktA (n k : Nat) (c p : Int) : List Nat := layL false n (layA k c p)
def Pkt18R (n k : Nat) (c p : Int) (w : World) (e : Ending) (w' : World) : Prop := ∃ v', e = .returned v' ∧ NewS BK 5 w w' v' (pktA n k c p)
set_option maxRecDepth 100000 in
theorem packet19_any (n k : Nat) (c p : Int) (hn : n < 18446744073709551616) (hk : k < 256) (w : World) (x : Int) (hx : x = n) : Calls Tryz.prog 28 #[.int .u64 x, .agg #[.int .u8 (k : Int), .int .i64 c, .int .i64 p]] w (Pkt18R n k c p w) := by
  subst hx
  obtain ⟨D, hD⟩ : ∃ D, D = layA k c p := ⟨_, rfl⟩
  have HD := Lib.hid hD
  have HDX := Lib.hid (show ∀ x ∈ D, x < 256 by rw [hD]; exact layA_lt _ _ _)
  have hdl : D.length ≤ 1000000 := by rw [hD]; exact Nat.le_trans (layA_le _ _ _) (by decide)
  have HN := Lib.hid hn
  clear hD hn
  go_enter Tryz.func28, Tryz.ntmps28
  go_wp2_with fail
  refine (layAct_any k c p hk _).mono ?_
  rintro e w1 ⟨v1, rfl, k1⟩
  rw [← HD.out] at k1
  obtain ⟨A1, c1, rfl⟩ := k1.own.rd.shape
  have K1 := Lib.hid k1
  clear k1
  go_wp2_with fail
  refine (rlay_any K1.out.own.rd false n HN.out HDX.out).mono ?_
  rintro e w2 ⟨v2, rfl, k2⟩
  obtain ⟨A2, c2, rfl⟩ := k2.own.rd.shape
  have K2 := Lib.hid k2
  clear k2
  go_wp2
  go_ret
  refine ⟨_, rfl, ?_⟩
  unfold pktA
  rw [← HD.out]
  have kk := ((Kp.refl No w).alloc (.cells #[.int .u8 (k : Int), .int .i64 c, .int .i64 p] 40)).trans K1.out.kp
  exact ⟨K2.out.own, fun g hg => Nat.le_trans kk.size (K2.out.ge g hg), kk.trans K2.out.kp⟩
end Go.Proofs.YtfpikgkbccgchaaGreatDoor

namespace Go.Proofs.YtfpikgkbccgchaaGreatDoor
set_option linter.unusedVariables false
set_option linter.unusedSimpArgs false
open Go.RowKit

/-- v, that came in, reads as l. -/
def RdA {α : Type} (K : Kd α) (w : World) (v : Value) (l : List α) : Prop :=
  ∃ A cap, v = .slice A l.length cap ∧ ∀ i x, l[i]? = some x → ∃ g o, A = some ⟨g, o, none⟩ ∧ ∀ j u, (K.enc x)[j]? = some u → w.cell? ⟨g, o + i * K.sz + j, none⟩ = some u

theorem Rd.a {α : Type} {K : Kd α} {w : World} {v : Value} {l : List α} (h : Rd K w v l) : RdA K w v l := by
  have h' := h
  rcases h with ⟨⟨A, c, rfl⟩, rfl⟩ | ⟨g, o, cap, rfl, _⟩
  · exact ⟨A, c, rfl, by simp⟩
  · exact ⟨_, cap, rfl, fun i x hx => ⟨g, o, rfl, fun j u hu => h'.at rfl hx hu⟩⟩
theorem RdA.kpNo {α : Type} {K : Kd α} {w w' : World} {v : Value} {l : List α} (h : RdA K w v l) (hk : Kp No w w') : RdA K w' v l :=
  let ⟨A, cap, hv, hc⟩ := h
  ⟨A, cap, hv, fun i x hx => let ⟨g, o, hA, hu⟩ := hc i x hx; ⟨g, o, hA, fun j u hj => hk.cellS (hu j u hj) (no_no _)⟩⟩
theorem RdA.shape {α : Type} {K : Kd α} {w : World} {v : Value} {l : List α} (h : RdA K w v l) : ∃ A cap, v = .slice A l.length cap := let ⟨A, cap, hv, _⟩ := h; ⟨A, cap, hv⟩
theorem RdA.take {α : Type} {K : Kd α} {w : World} {A : Option Addr} {n cap : Nat} {l : List α} (h : RdA K w (.slice A n cap) l) (m : Nat) : RdA K w (.slice A (min m n) cap) (l.take m) := by
  obtain ⟨A', cap', hv, hc⟩ := h
  simp only [Value.slice.injEq] at hv
  obtain ⟨rfl, rfl, rfl⟩ := hv
  refine ⟨A, cap, by simp, fun i x hx => ?_⟩
  rw [List.getElem?_take] at hx
  split at hx
  · exact hc i x hx
  · cases hx
theorem RdA.at {α : Type} {K : Kd α} {w : World} {A : Option Addr} {n cap : Nat} {l : List α} (h : RdA K w (.slice A n cap) l) {i : Nat} {x : α} (hx : l[i]? = some x) :
    ∃ g o, A = some ⟨g, o, none⟩ ∧ ∀ j u, (K.enc x)[j]? = some u → w.cell? ⟨g, o + i * K.sz + j, none⟩ = some u := by
  obtain ⟨A', cap', hv, hc⟩ := h
  simp only [Value.slice.injEq] at hv
  obtain ⟨rfl, rfl, rfl⟩ := hv
  exact hc i x hx

/-- 's[:hi]' of whatever came in. -/
theorem run_slice_hiA {α : Type} {K : Kd α} {P : Program} {t e : TypeId} {bytes : Nat} (E : ElT P t e K bytes) (A : Option Addr) (n cap hi : Nat) (h : hi ≤ cap) (x : Int) (hx : x = hi) (w : World) :
    (Instr.slice t (.slice A n cap) none (some (.int .i64 x)) none).run P w = .ok (.slice A hi cap) w := by
  subst hx
  obtain ⟨ht, i, z, hi', hz, hsize, hby, hzs⟩ := E
  have hA : (if cap = 0 then A else A.map (·.add (0 * i.size))) = A := by
    split
    · rfl
    · cases A <;> simp [Addr.add]
  simp only [Nat.zero_mul] at hA
  simp [Instr.slice, Instr.sliceBounds, Instr.sliceBound, run_underlying ht, sizeOf, typeInfo, hi', asIntOf, h, hA]

theorem list_of {α : Type} (Q : Nat → α → Prop) : ∀ n, (∀ i, i < n → ∃ x, Q i x) → ∃ l : List α, l.length = n ∧ ∀ i x, l[i]? = some x → Q i x
  | 0, _ => ⟨[], rfl, by simp⟩
  | n + 1, h => by
    obtain ⟨l, hl, hq⟩ := list_of Q n fun i hi => h i (by omega)
    obtain ⟨x, hx⟩ := h n (by omega)
    refine ⟨l ++ [x], by simp [hl], fun i y hy => ?_⟩
    rw [List.getElem?_append] at hy
    split at hy
    · exact hq i y hy
    · rename_i hi
      have : i = l.length := by
        have := (List.getElem?_eq_some_iff.1 hy).1
        simp at this; omega
      subst this
      simp at hy
      subst hy
      rw [hl]; exact hx

theorem open_rows {α : Type} {K : Kd α} {H : Type} {enc : TypeId × Value → H} {P : Program} {w : World} {base : Nat} {spare : Nat → Bool} {held : Bool} {t e : TypeId} {fuel : Nat} {v : Value} {x : DataW H × List MemPlace} (Good : α → Prop)
    (ht : P.underlying t = some (.slice e)) (hC : P.cellsOf e = K.sz) (dec : ∀ n cs' y, DataW.trod enc P w base spare held n e cs' = some y → ∃ x : α, cs' = K.enc x ∧ Good x)
    (h : DataW.trod enc P w base spare held fuel t [v] = some x) : ∃ l : List α, RdA K w v l ∧ (∀ x ∈ l, Good x) ∧ ∃ A cap, v = .slice A l.length cap ∧ l.length ≤ cap ∧ cap ≤ maxLen := by
  rcases Go.Deep.open_slice ht h with ⟨h0, _⟩ | ⟨a, len, cap, m, n, D, Pl, hcs, hb, hl, hm, hmm, hx, hi⟩
  · simp at h0
    exact ⟨[], ⟨none, 0, h0, by simp⟩, by simp, none, 0, h0, by simp, by simp⟩
  · simp at hcs
    have hml : len ≤ m := by rw [hmm]; split <;> omega
    have hsp : 0 < len → a = ⟨a.block, a.off, none⟩ := by
      intro h0
      obtain ⟨cs', hc, ht'⟩ := hi 0 (by omega)
      obtain ⟨y, rfl, _⟩ := dec n cs' _ ht'
      obtain ⟨_, hcl, hat⟩ := World.cells?_some hc
      have h1 := hat 0 (by rw [hC]; exact K.pos)
      rw [List.getElem?_eq_getElem (by rw [K.len y]; exact K.pos), Nat.zero_mul] at h1
      have := World.cell?_spot h1
      simp only [Addr.add, if_true] at this
      obtain ⟨b, o, sp⟩ := a
      simp only at this
      rw [this]
    obtain ⟨l, hll, hq⟩ := list_of (fun i (x : α) => Good x ∧ ∃ g o, some a = some (⟨g, o, none⟩ : Addr) ∧ ∀ j u, (K.enc x)[j]? = some u → w.cell? ⟨g, o + i * K.sz + j, none⟩ = some u) len fun i hil => by
      obtain ⟨cs', hc, ht'⟩ := hi i (by omega)
      obtain ⟨y, rfl, hg⟩ := dec n cs' _ ht'
      obtain ⟨_, hcl, hat⟩ := World.cells?_some hc
      rw [hC] at hat
      have ha := hsp (by omega)
      refine ⟨y, hg, a.block, a.off, congrArg some ha, fun j u hj => ?_⟩
      have hjl : j < K.sz := by rw [← K.len y]; exact (List.getElem?_eq_some_iff.1 hj).1
      have := hat j hjl
      rw [ha] at this
      simp only [Addr.add_lit] at this
      rw [this, hj]
    subst hll
    exact ⟨l, ⟨some a, cap, hcs, fun i x hx => (hq i x hx).2⟩, fun x hx => by obtain ⟨i, hil, rfl⟩ := List.getElem_of_mem hx; exact (hq i _ (List.getElem?_eq_getElem hil)).1, some a, cap, hcs, hl, hm⟩
end Go.Proofs.YtfpikgkbccgchaaGreatDoor

namespace Go.Proofs.YtfpikgkbccgchaaGreatDoor
set_option linter.unusedVariables false
set_option linter.unusedSimpArgs false
open Go.ChangeShapes Go.WideShapes Go.ChangeAt Go.RowKit Go.Joins


theorem Kd.encs_split {α : Type} (K : Kd α) (l : List α) : ∀ (j : Nat) (u : Value), (K.encs l)[j]? = some u → ∃ i x j', l[i]? = some x ∧ (K.enc x)[j']? = some u ∧ j = i * K.sz + j' := by
  induction l with
  | nil => intro j u h; simp [Kd.encs] at h
  | cons a l ih =>
    intro j u h
    rw [K.encs_cons] at h
    rcases Nat.lt_or_ge j (K.enc a).length with hj | hj
    · rw [List.getElem?_append_left hj] at h
      exact ⟨0, a, j, rfl, h, by omega⟩
    · rw [List.getElem?_append_right hj, K.len] at h
      obtain ⟨i, x, j', h1, h2, h3⟩ := ih _ _ h
      rw [K.len] at hj
      refine ⟨i + 1, x, j', by simpa using h1, h2, ?_⟩
      rw [Nat.add_mul, Nat.one_mul]; omega
theorem RdA.rd {α : Type} {K : Kd α} {w : World} {A : Option Addr} {n cap : Nat} {l : List α} (h : RdA K w (.slice A n cap) l) (h1 : l.length ≤ cap) (h2 : cap ≤ maxLen) : Rd K w (.slice A l.length cap) l := by
  cases l with
  | nil => exact Rd.empty K w A cap
  | cons a l =>
    obtain ⟨g, o, rfl, _⟩ := h.at (i := 0) (x := a) rfl
    refine .inr ⟨g, o, cap, rfl, h1, h2, fun j u hu => ?_⟩
    obtain ⟨i, x, j', e1, e2, rfl⟩ := K.encs_split _ _ _ hu
    obtain ⟨g', o', hg, hc⟩ := h.at e1
    simp only [Option.some.injEq, Addr.mk.injEq] at hg
    obtain ⟨rfl, rfl, _⟩ := hg
    rw [← Nat.add_assoc]
    exact hc j' u e2

section
variable {H : Type} {enc : TypeId × Value → H} {w : World} {base : Nat} {spare : Nat → Bool} {held : Bool}

theorem byte_dec {n : Nat} {cs : List Value} {y : DataW H × List MemPlace} (h : DataW.trod enc Tryz.prog w base spare held n 5 cs = some y) : ∃ x : Nat, cs = BK.enc x ∧ x < 256 := by
  obtain ⟨k, e0, _, wk⟩ := DataW.trod_int Tryz.underlying5 h
  have := bounds_u8 wk
  refine ⟨k.toNat, ?_, by omega⟩
  rw [e0]
  show [Value.int .u8 k] = [.int .u8 ((k.toNat : Nat) : Int)]
  rw [Int.toNat_of_nonneg this.1]
set_option maxRecDepth 100000 in
/-- Bytes that came in. -/
theorem bytes_dec {n : Nat} {v : Value} {y : DataW H × List MemPlace} (h : DataW.trod enc Tryz.prog w base spare held n 41 [v] = some y) : ∃ l : List Nat, Rd BK w v l ∧ ∀ x ∈ l, x < 256 := by
  obtain ⟨l, h1, h2, A, cap, rfl, h3, h4⟩ := open_rows (K := BK) (fun x : Nat => x < 256) Tryz.underlying41 (by kernel_rfl) (fun n cs' y hy => byte_dec hy) h
  exact ⟨l, h1.rd h3 h4, h2⟩
set_option maxRecDepth 100000 in
theorem open_bytes {v : Value} {d : DataW H} {p : List MemPlace} {r : Reach} {b0 : Nat} (hv : Value.okWide Tryz.prog w r b0 41 v) (h : DataW.Trod enc Tryz.prog w base spare held 41 v d p) : ∃ l : List Nat, Rd BK w v l ∧ ∀ x ∈ l, x < 256 := by
  obtain ⟨a0, len, cap, rfl⟩ := okWide_slice Tryz.underlying41 hv
  obtain ⟨fuel, hf⟩ := h
  exact bytes_dec hf
set_option maxRecDepth 100000 in
theorem open_packet {v : Value} {d : DataW H} {p : List MemPlace} {r : Reach} {b0 : Nat} (hv : Value.okWide Tryz.prog w r b0 118 v) (h : DataW.Trod enc Tryz.prog w base spare held 118 v d p) :
    ∃ (hd : Bool) (n : Nat) (v2 : Value) (l : List Nat), v = .agg #[.bool hd, .int .u64 (n : Int), v2] ∧ n < 18446744073709551616 ∧ Rd BK w v2 l ∧ ∀ x ∈ l, x < 256 := by
  obtain ⟨v0, v1, v2, y0, y1, y2, n, rfl, _, _, h0, h1, h2⟩ := open_agg3 Tryz.underlying118 (by kernel_rfl) (by kernel_rfl) hv h
  obtain ⟨b, e0, _⟩ := DataW.trod_bool Tryz.underlying4 h0
  obtain ⟨k, e1, _, wk⟩ := DataW.trod_int Tryz.underlying62 h1
  obtain ⟨l, h3, h4⟩ := bytes_dec h2
  simp at e0 e1
  subst e0 e1
  have hb := bounds_u64 wk
  refine ⟨b, k.toNat, v2, l, ?_, by omega, h3, h4⟩
  rw [Int.toNat_of_nonneg hb.1]
end
end Go.Proofs.YtfpikgkbccgchaaGreatDoor

namespace Go.Proofs.YtfpikgkbccgchaaGreatDoor
set_option linter.unusedVariables false
set_option linter.unusedSimpArgs false
open Go.ChangeShapes Go.WideShapes Go.ChangeAt Go.RowKit Go.Joins

/-- A slice's head, and what it reads as. -/
structure SlH where
  A : Option Addr
  c : Nat
  b : List Nat
def SlH.val (x : SlH) : Value := .slice x.A x.b.length x.c
def SHK : Kd SlH := { sz := 1, enc := fun x => [x.val], len := fun _ => rfl, one := by intro a v hv; simp at hv; subst hv; rfl, pos := by decide }
def SlH.ok (w : World) (x : SlH) : Prop := Rd BK w x.val x.b ∧ ∀ y ∈ x.b, y < 256
theorem SlH.ok.kpNo {w w' : World} {x : SlH} (h : x.ok w) (hk : Kp No w w') : x.ok w' := ⟨h.1.kpNo hk, h.2⟩
theorem Rd.slAt {w : World} {l : List SlH} {g o n cap : Nat} (h : Rd SHK w (.slice (some ⟨g, o, none⟩) n cap) l) {i : Nat} {x : SlH} (hx : l[i]? = some x) : w.cell? ⟨g, o + i, none⟩ = some (.slice x.A x.b.length x.c) := by
  have := h.at rfl hx (j := 0) rfl
  simpa [SHK, SlH.val] using this

section
variable {H : Type} {enc : TypeId × Value → H} {w : World} {base : Nat} {spare : Nat → Bool} {held : Bool}
theorem slh_dec {n : Nat} {cs : List Value} {y : DataW H × List MemPlace} (h : DataW.trod enc Tryz.prog w base spare held n 41 cs = some y) : ∃ x : SlH, cs = SHK.enc x ∧ x.ok w := by
  have hc : ∃ v, cs = [v] := by
    rcases Go.Deep.open_slice Tryz.underlying41 h with ⟨h0, _⟩ | ⟨a, len, cap, m, n, D, Pl, hcs, _⟩
    · exact ⟨_, h0⟩
    · exact ⟨_, hcs⟩
  obtain ⟨v, rfl⟩ := hc
  obtain ⟨b, h1, h2⟩ := bytes_dec h
  obtain ⟨A, c, rfl⟩ := h1.shape
  exact ⟨⟨A, c, b⟩, rfl, h1, h2⟩
end
end Go.Proofs.YtfpikgkbccgchaaGreatDoor

namespace Go.Proofs.YtfpikgkbccgchaaGreatDoor
set_option linter.unusedVariables false
set_option linter.unusedSimpArgs false
open Go.ChangeShapes Go.WideShapes Go.ChangeAt Go.RowKit Go.Joins

section
variable {H : Type} {enc : TypeId × Value → H} {w : World} {base : Nat} {spare : Nat → Bool} {held : Bool}
set_option maxRecDepth 100000 in
theorem open_bytess {v : Value} {d : DataW H} {p : List MemPlace} {r : Reach} {b0 : Nat} (hv : Value.okWide Tryz.prog w r b0 148 v) (h : DataW.Trod enc Tryz.prog w base spare held 148 v d p) : ∃ l : List SlH, Rd SHK w v l ∧ ∀ x ∈ l, x.ok w := by
  obtain ⟨a0, len, cap, rfl⟩ := okWide_slice Tryz.underlying148 hv
  obtain ⟨fuel, hf⟩ := h
  obtain ⟨l, h1, h2, A, cap', hv', h3, h4⟩ := open_rows (K := SHK) (SlH.ok w) Tryz.underlying148 (by kernel_rfl) (fun n cs' y hy => slh_dec hy) hf
  simp only [Value.slice.injEq] at hv'
  obtain ⟨rfl, rfl, rfl⟩ := hv'
  exact ⟨l, h1.rd h3 h4, h2⟩
end
end Go.Proofs.YtfpikgkbccgchaaGreatDoor

namespace Go.Proofs.YtfpikgkbccgchaaGreatDoor
set_option linter.unusedVariables false
set_option linter.unusedSimpArgs false
open Go.RowKit

theorem elS : ElT Tryz.prog 148 41 SHK 24 := ElT.of (z := .slice none 0 0) (by kernel_rfl) (by kernel_rfl) rfl
theorem zeroS : ∀ z, (Tryz.prog.info? 41).bind (·.zero) = some z → ∀ v ∈ z.cells.toList, v.oneCell' = true := by
  intro z hz
  obtain ⟨i, hi, h0, _, _⟩ := info_parts (P := Tryz.prog) (e := 41) (z := .slice none 0 0) (size := 1) (bytes := 24) (by kernel_rfl)
  rw [hi] at hz
  simp only [Option.bind_some, h0, Option.some.injEq] at hz
  subst hz
  intro v hv
  simp [Value.cells] at hv
  subst hv; rfl

/-- A packet under way. -/
def SlH.own (w : World) (x : SlH) : Prop := Own BK 5 w x.val x.b ∧ ∀ y ∈ x.b, y < 256
theorem SlH.own.kpB {w w' : World} {x : SlH} {S : Nat → Prop} (h : x.own w) (hk : Kp S w w') (hs : Byt w S) : x.own w' := ⟨h.1.kpB hk hs, h.2⟩
theorem SlH.own.len {w : World} {x : SlH} (h : x.own w) : x.b.length ≤ maxLen := by
  rcases h.1 with ⟨_, e⟩ | ⟨_, _, _, _, _, a, b, _⟩
  · rw [e]; simp
  · omega

/-- A network: p points to it; V has the packets under way. -/
structure NetS (p : Nat) (V : Value) (l : List SlH) (w : World) : Prop where
  blk : w.heap[p]? = some (.cells #[V] 150 (0, 0))
  own : Own SHK 41 w V l
  el : ∀ x ∈ l, x.own w
section
variable {p : Nat} {V : Value} {l : List SlH} {w w' : World} {S : Nat → Prop}
theorem NetS.far (h : NetS p V l w) (hk : Kp S w w') (hp : ¬ S p) (hv : ∀ g, V.ownBlock = some g → ¬ S g) (hs : Byt w S) : NetS p V l w' :=
  ⟨hk.blk h.blk hp, h.own.kp hk hv, fun x hx => (h.el x hx).kpB hk hs⟩
theorem NetS.no (h : NetS p V l w) (hk : Kp No w w') : NetS p V l w' := h.far hk (no_no _) (fun _ _ => no_no _) (Byt.no w)
theorem NetS.byt (h : NetS p V l w) : Byt w (fun k => k = p ∨ V.ownBlock = some k) := (Byt.one h.blk (by decide)).or (Byt.own h.own (by decide))
theorem NetS.ne2 (h : NetS p V l w) (q : Prop) : ¬ V.ownBlock = some p := fun e => own_neB h.own h.blk (by decide) p e rfl
theorem NetS.ne (h : NetS p V l w) : ∀ g, V.ownBlock = some g → g ≠ p := own_neB h.own h.blk (by decide)
end

theorem newNet_any (w : World) : Calls Tryz.prog 36 #[] w fun e w' => ∃ p, e = .returned (.pointer (some ⟨p, 0, none⟩)) ∧ NetS p (.slice none 0 0) [] w' ∧ Kp No w w' ∧ w.heap.size ≤ p ∧ p < w'.heap.size := by
  go_enter Tryz.func36, Tryz.ntmps36
  go_wp2
  go_ret
  exact ⟨w.heap.size, rfl, ⟨blk_new w _, Own.nil _ _ _, by simp⟩, (Kp.refl _ _).alloc _, Nat.le_refl _, by simp⟩

/-- A new slice is handed back. -/
def RetS {α : Type} (K : Kd α) (e : TypeId) (l : List α) (w : World) (en : Ending) (w' : World) : Prop := ∃ v', en = .returned v' ∧ NewS K e w w' v' l
theorem cloneB_any {w : World} {v : Value} {l : List Nat} (h : Rd BK w v l) (hl : l.length ≤ 1000000) : Calls Tryz.prog 99 #[v] w (RetS BK 5 l w) := by
  have qe := fun (w : World) (a : Option Addr) (n c : Nat) => Lib.run_eql_slice_nil (P := Tryz.prog) w 41 5 a n c 0 0 Tryz.underlying41
  obtain ⟨A, cap, rfl⟩ := h.shape
  have H := Lib.hid h
  clear h
  cases A with
  | none =>
    have hl0 : l = [] := by
      rcases H.out with ⟨_, e⟩ | ⟨g, o, c, e, _⟩
      · exact e
      · simp at e
    subst hl0
    go_enter Tryz.func99, Tryz.ntmps99
    go_wp2
    go_ret
    exact ⟨_, rfl, NewS.nil _ _ _⟩
  | some a =>
    go_enter Tryz.func99, Tryz.ntmps99
    go_wp2_with (at_builtin; refine wpl_append elB rfl (.tmp 5) (.tmp 6) rfl rfl rfl (l := []) (m := l) ?c1 ?c2 ?c3 ?c4 ?c5)
    case c1 => exact (NewS.empty BK 5 w).own
    case c2 => exact H.out.alloc _
    case c3 => have z : l.length ≤ maxLen := (by unfold maxLen; omega); simpa using z
    case c4 => have z : l.length ≤ 140737488355328 := (by omega); simpa using z
    case c5 =>
      intro v' w' m1 m2 m3
      have q : NewS BK 5 w w' v' l := (NewS.empty BK 5 w).app (Kp.refl _ _) m1 m2 m3 (by simp)
      have Q := Lib.hid q
      clear m1 m2 m3 q
      go_wp2
      go_ret
      exact ⟨_, rfl, Q.out⟩

def hasB (n : Nat) (x : Int) : Bool := decide (0 ≤ x) && decide (x < n)
set_option maxRecDepth 100000 in
theorem has_any (w : World) (A : Option Addr) (n c : Nat) (x : Int) : Calls Tryz.prog 130 #[.slice A n c, .int .i64 x] w fun e w' => e = .returned (.bool (hasB n x)) ∧ w = w' := by
  by_cases h : 0 ≤ x
  · by_cases h2 : x < n
    · have hb : hasB n x = true := by unfold hasB; simp [h, h2]
      rw [hb]; clear hb
      go_enter Tryz.func130, Tryz.ntmps130
      go_wp2
      go_ret
      exact ⟨rfl, rfl⟩
    · have hb : hasB n x = false := by unfold hasB; simp [h2]
      rw [hb]; clear hb
      go_enter Tryz.func130, Tryz.ntmps130
      go_wp2
      go_ret
      exact ⟨rfl, rfl⟩
  · have hb : hasB n x = false := by unfold hasB; simp [h]
    rw [hb]; clear hb
    go_enter Tryz.func130, Tryz.ntmps130
    go_wp2
    go_ret
    exact ⟨rfl, rfl⟩

theorem rd_one (w : World) (x : SlH) : Rd SHK (w.alloc (.cells #[x.val] 41)) (.slice (some ⟨w.heap.size, 0, none⟩) 1 1) [x] :=
  Rd.litAt SHK 41 w #[x.val] [x] rfl (by unfold maxLen; simp) _ 1 rfl rfl

theorem net_mid {p : Nat} {V : Value} {l : List SlH} {w2 w3 : World} {o : Obj} (h : NetS p V l w2) (m : Kp (fun k => V.ownBlock = some k) (w2.alloc o) w3) : w3.frozen? ⟨p, 0, none⟩ = false ∧ w3.cell? ⟨p, 0, none⟩ = some V := by
  have b := m.blk (((Kp.refl No w2).alloc o).blk h.blk (no_no _)) (h.ne2 True)
  exact ⟨blk_free b 0, (blk_cell b 0).trans rfl⟩
/-- The net, when its row has been stored back. -/
theorem net_back {p : Nat} {V V' : Value} {l l' : List SlH} {w w3 : World} (h : NetS p V l w) (m : Kp (fun k => V.ownBlock = some k) w w3) (o : Own SHK 41 w3 V' l') (el : ∀ x ∈ l', x.own w3) :
    NetS p V' l' (w3.setCell ⟨p, 0, none⟩ V') ∧ Kp (fun k => k = p ∨ V.ownBlock = some k) w (w3.setCell ⟨p, 0, none⟩ V') := by
  have b := m.blk h.blk (h.ne2 True)
  have hk := Kp.one (w := w3) (p := p) 0 V'
  have hb := Byt.one b (by decide)
  exact ⟨⟨(blk_set b 0 V').trans rfl, o.kp hk (own_neB o b (by decide)), fun x hx => (el x hx).kpB hk hb⟩, (m.mono fun _ _ e => .inr e).trans (hk.mono fun _ _ e => .inl e)⟩

/-- Behind Send. -/
def SendR (p : Nat) (V : Value) (l : List SlH) (d : List Nat) (w : World) (e : Ending) (w' : World) : Prop :=
  (l.length < 1024 ∧ e = .returned (.int .i64 0) ∧ ∃ V' x, x.b = d ∧ NetS p V' (l ++ [x]) w' ∧ Kp (fun k => k = p ∨ V.ownBlock = some k) w w' ∧ ∀ g, V'.ownBlock = some g → V.ownBlock = some g ∨ w.heap.size ≤ g) ∨
    (1024 ≤ l.length ∧ e = .returned (.int .i64 4) ∧ w = w')

set_option maxRecDepth 100000 in
theorem send_any {w : World} {p : Nat} {V v : Value} {l : List SlH} {d : List Nat} (h : NetS p V l w) (hv : Rd BK w v d) (hd : d.length ≤ 1000000) (hx : ∀ y ∈ d, y < 256) :
    Calls Tryz.prog 59 #[.pointer (some ⟨p, 0, none⟩), v] w (SendR p V l d w) := by
  obtain ⟨A, cap, rfl⟩ := h.own.rd.shape
  have c0 : w.cell? ⟨p, 0, none⟩ = some (.slice A l.length cap) := (blk_cell h.blk 0).trans rfl
  have f0 : w.frozen? ⟨p, 0, none⟩ = false := blk_free h.blk 0
  have H := Lib.hid h; have HV := Lib.hid hv; have HX := Lib.hid hx
  clear h hv hx
  by_cases hl : 1024 ≤ l.length
  · have hlI : (1024 : Int) ≤ (l.length : Int) := by omega
    have HL := Lib.hid hl
    clear hl
    go_enter Tryz.func59, Tryz.ntmps59
    go_wp2
    go_ret
    exact .inr ⟨HL.out, rfl, rfl⟩
  · have hlI : ¬ (1024 : Int) ≤ (l.length : Int) := by omega
    have hl2 : l.length < 1024 := by omega
    clear hl
    go_enter Tryz.func59, Tryz.ntmps59
    go_wp2
    go_region_law (first
      | (refine stp_append elS rfl (.tmp 19) (.tmp 22) rfl rfl rfl (N2.out.no ((Kp.refl No w2).alloc _)).own E2.out (by unfold maxLen; simp; omega) (by simp; omega) ?_; intro v3 w3 m1 m2 m3; obtain ⟨A3, c3, rfl⟩ := m1.rd.shape; have F3 : w3.frozen? ⟨p, 0, none⟩ = false := (net_mid N2.out m2).1; have C3 : w3.cell? ⟨p, 0, none⟩ = some (.slice A l.length cap) := (net_mid N2.out m2).2; have M1 := Lib.hid m1; have M2 := Lib.hid m2; have M3 := Lib.hid m3; clear m1 m2 m3)
      | (go_simp; go_at_call 99; refine (cloneB_any (w := w.drew) (HV.out.kpNo (Kp.refl No w).drew) hd).mono ?_; rintro e w2 ⟨v2, rfl, k2⟩; obtain ⟨A2, c2, rfl⟩ := k2.own.rd.shape; have E2 := Lib.hid (rd_one w2 ⟨A2, c2, d⟩); have N2 := Lib.hid (H.out.no k2.kp.ofDrew); have K2 := Lib.hid k2; have C2 : w2.cell? ⟨p, 0, none⟩ = some (.slice A l.length cap) := (blk_cell N2.out.blk 0).trans rfl; have D2 : ∀ o, (w2.alloc o).cell? ⟨p, 0, none⟩ = some (.slice A l.length cap) := (fun o => (blk_cell (blk_alloc N2.out.blk o) 0).trans rfl); clear k2))
    all_goals
      go_wp2
      go_ret
      have kk : Kp (fun k => (Value.slice A l.length cap).ownBlock = some k) w w3 := (((K2.out.kp.ofDrew.alloc _).mono fun _ _ e => e.elim).trans M2.out)
      have el : ∀ x ∈ l ++ [⟨A2, c2, d⟩], SlH.own w3 x := by
        intro x hx
        rcases List.mem_append.1 hx with hx | hx
        · exact (H.out.el x hx).kpB kk (Byt.own H.out.own (by decide))
        · rw [List.mem_singleton.1 hx]
          exact ⟨(K2.out.own.alloc _).kpB M2.out (Byt.own (N2.out.no ((Kp.refl No w2).alloc _)).own (by decide)), HX.out⟩
      obtain ⟨r1, r2⟩ := net_back H.out kk M1.out el
      refine .inl ⟨hl2, rfl, .slice A3 (l.length + 1) c3, ⟨A2, c2, d⟩, rfl, ?_, ?_, fun g hg => (M3.out g ?_).imp id fun e => ?_⟩
      · simpa using r1
      · simpa using r2
      · simpa using hg
      · have := ((K2.out.kp.ofDrew.alloc (.cells #[.slice A2 d.length c2] 41)).size); omega
end Go.Proofs.YtfpikgkbccgchaaGreatDoor

namespace Go.Proofs.YtfpikgkbccgchaaGreatDoor
set_option linter.unusedVariables false
set_option linter.unusedSimpArgs false
open Go.RowKit

set_option maxRecDepth 100000 in
theorem deleteS_any (g cap : Nat) (l : List SlH) (i n : Nat) (w : World) (hn : n = l.length) (hi : i < l.length) (hl : l.length ≤ 1000000) (hlc : l.length ≤ cap) (hcm : cap ≤ maxLen)
    (hB : OwnB SHK 41 w g cap l) (x y : Int) (hx : x = i) (hy : y = i + 1) :
    Calls Tryz.prog 131 #[.slice (some ⟨g, 0, none⟩) n cap, .int .i64 x, .int .i64 y] w fun e w' =>
      e = .returned (.slice (some ⟨g, 0, none⟩) (l.eraseIdx i).length cap) ∧ Kp (fun k => k = g) w w' ∧ OwnB SHK 41 w' g cap (l.eraseIdx i) := by
  have hne : (x == y) = false := by simp; omega
  obtain ⟨n1, hn1⟩ : ∃ n1, n = n1 + 1 := ⟨n - 1, by omega⟩
  have hlen : (l.eraseIdx i).length = n1 := by rw [List.length_eraseIdx_of_lt hi]; omega
  have hels : l.take i ++ l.drop (i + 1) = l.eraseIdx i := (List.eraseIdx_eq_take_drop_succ l i).symm
  obtain ⟨o1, _, s1⟩ := run_slice_3 elS g 0 n cap i (i + 1) n (by omega) (by omega) (by omega) x y n hx (by omega) rfl
  have s2 := run_slice_hi elS g 0 n cap i (by omega) x hx
  obtain ⟨o2, ho2, s3⟩ := run_slice_lo elS g 0 n cap (i + 1) (by omega) y (by omega)
  obtain ⟨o3, ho3, s4⟩ := run_slice_lohi elS g 0 n1 cap n1 n (by omega) (by omega) n1 n rfl rfl
  obtain ⟨w1, hap, hB1, hK1⟩ := (hB.take i).drew.appended elS (l.drop (i + 1)) (by simp; omega) i (n - (i + 1)) n1 (some ⟨g, o2, none⟩) (cap - (i + 1)) (by simp; omega) (by simp; omega) (by simp; omega)
    (fun hpos => ⟨g, o2, rfl, fun j u hu => by
      rw [List.length_drop] at hpos
      rw [ho2 (by omega), Nat.zero_add]
      rw [← SHK.encs_drop, List.getElem?_drop] at hu
      exact hB.drew.cells _ u hu⟩)
  rw [hels] at hB1
  obtain ⟨w2, hcl, hB2, hK2⟩ := hB1.cleared elS zeroS o3 (n - n1) (cap - n1) (fun h => by rw [ho3 (by omega), hlen]; show 0 + n1 * 1 = n1 * 1; omega) (by omega)
  have HB := Lib.hid hB2; have HK := Lib.hid (hK1.trans hK2); have HL := Lib.hid hlen; have HA := Lib.hid hap; have HC := Lib.hid hcl
  clear hB hB1 hB2 hK1 hK2 hlen hap hcl hels hx hy hn hn1 ho2 ho3
  unfold maxLen at hcm
  go_enter Tryz.func131, Tryz.ntmps131
  go_wp2
  go_still_tail 6, (by kernel_rfl)
  change wpList _ _ _ _ _ w.drew
  go_wp2_with (first | (at_builtin; refine wpl_runAppend rfl (.tmp 22) (.tmp 25) 148 148 rfl rfl rfl HA.out ?_) | (refine wpl_runClear rfl (.tmp 31) 148 rfl rfl HC.out ?_))
  go_ret
  refine ⟨by rw [HL.out]; rfl, (Kp.refl (fun k => k = g) w).drew.trans HK.out, HB.out⟩

def atB (l : List SlH) (x : Int) : List Nat := if hasB l.length x then ((l[x.toNat]?).map (·.b)).getD [] else []
def PeekR (l : List SlH) (x : Int) (w : World) (e : Ending) (w' : World) : Prop := ∃ v', e = .returned (.tuple #[v', .bool (hasB l.length x)]) ∧ NewS BK 5 w w' v' (atB l x)
theorem hasB_nat {n : Nat} {x : Int} (h : hasB n x = true) : ∃ i : Nat, x = i ∧ i < n := by
  unfold hasB at h
  simp only [Bool.and_eq_true, decide_eq_true_eq] at h
  exact ⟨x.toNat, by omega, by omega⟩

set_option maxRecDepth 100000 in
theorem peek_any {w : World} {p : Nat} {V : Value} {l : List SlH} (h : NetS p V l w) (hl : ∀ x ∈ l, x.b.length ≤ 1000000) (hn : l.length ≤ 1000000) (x : Int) : Calls Tryz.prog 97 #[.pointer (some ⟨p, 0, none⟩), .int .i64 x] w (PeekR l x w) := by
  obtain ⟨A, cap, rfl⟩ := h.own.rd.shape
  have c0 : w.cell? ⟨p, 0, none⟩ = some (.slice A l.length cap) := (blk_cell h.blk 0).trans rfl
  by_cases hb : hasB l.length x = true
  · obtain ⟨i, rfl, hi⟩ := hasB_nat hb
    obtain ⟨y, hy⟩ : ∃ y, l[i]? = some y := ⟨_, List.getElem?_eq_getElem hi⟩
    have hyb : y.b.length ≤ 1000000 := hl y (List.mem_of_getElem? hy)
    have hat : atB l (i : Int) = y.b := by unfold atB; rw [if_pos hb]; simp [hy]
    have hyo := (h.el y (List.mem_of_getElem? hy)).1.rd
    rcases h.own.b with ⟨_, e⟩ | ⟨g, cap', e, hm, hlc, hB⟩
    · rw [e] at hi; simp at hi
    simp only [Value.slice.injEq] at e
    obtain ⟨rfl, _, rfl⟩ := e
    have hcy := h.own.rd.slAt hy
    rw [Nat.zero_add] at hcy
    have hiI : (i : Int) < (l.length : Int) := by omega
    have HAT := Lib.hid hat; have HY := Lib.hid hyo; have HBB := Lib.hid hb
    clear hat hyo h hl hy hB hi
    go_enter Tryz.func97, Tryz.ntmps97
    go_wp2_with (first
      | (go_at_call 130; refine (has_any _ _ _ _ _).mono ?_; rintro e w1 ⟨rfl, rfl⟩)
      | (go_at_call 99; refine (cloneB_any HY.out hyb).mono ?_; rintro e w2 ⟨v2, rfl, k2⟩; obtain ⟨A2, c2, rfl⟩ := k2.own.rd.shape; have K2 := Lib.hid k2; clear k2))
    go_ret2
    exact ⟨.slice A2 y.b.length c2, by rw [HBB.out]; rfl, by rw [HAT.out]; exact K2.out⟩
  · have hb : hasB l.length x = false := by simpa using hb
    have hat : atB l x = [] := by unfold atB; rw [if_neg (by rw [hb]; decide)]
    have HAT := Lib.hid hat; have HBB := Lib.hid hb
    clear hat h hl
    go_enter Tryz.func97, Tryz.ntmps97
    go_wp2_with (first
      | (go_at_call 130; refine (has_any _ _ _ _ _).mono ?_; rintro e w1 ⟨rfl, rfl⟩))
    go_ret2
    exact ⟨.slice none 0 0, by rw [HBB.out]; rfl, by rw [HAT.out]; exact NewS.nil _ _ _⟩

def delB (l : List SlH) (x : Int) : List SlH := if hasB l.length x then l.eraseIdx x.toNat else l
structure TakeNS (p : Nat) (V : Value) (l : List SlH) (x : Int) (w w' : World) : Prop where
  net : ∃ V', NetS p V' (delB l x) w' ∧ ∀ g, V'.ownBlock = some g → V.ownBlock = some g
  kp : Kp (fun k => k = p ∨ V.ownBlock = some k) w w'
def TakeNR (p : Nat) (V : Value) (l : List SlH) (x : Int) (w : World) (e : Ending) (w' : World) : Prop :=
  ∃ v', e = .returned (.tuple #[v', .bool (hasB l.length x)]) ∧ Own BK 5 w' v' (atB l x) ∧ (∀ g, v'.ownBlock = some g → w.heap.size ≤ g) ∧ TakeNS p V l x w w'

set_option maxRecDepth 100000 in
theorem takeN_any {w : World} {p : Nat} {V : Value} {l : List SlH} (h : NetS p V l w) (hl : ∀ x ∈ l, x.b.length ≤ 1000000) (hn : l.length ≤ 1000000) (x : Int) (hx : (Lit.int .i64 x).wf = true) : Calls Tryz.prog 98 #[.pointer (some ⟨p, 0, none⟩), .int .i64 x] w (TakeNR p V l x w) := by
  obtain ⟨A, cap, rfl⟩ := h.own.rd.shape
  have H := Lib.hid h; have HL := Lib.hid hl
  obtain ⟨L, hL⟩ : ∃ L, L = atB l x := ⟨_, rfl⟩
  have HLE := Lib.hid hL
  by_cases hb : hasB l.length x = true
  · obtain ⟨i, rfl, hi⟩ := hasB_nat hb
    have hw1 : IntKind.i64.wrap ((i : Int) + 1) = (i : Int) + 1 := IntWalk.i64_in _ (by omega)
    have HBB := Lib.hid hb; have HI := Lib.hid hi
    rcases h.own.b with ⟨_, e⟩ | ⟨g, cap', e, hm, hlc, hB⟩
    · rw [e] at hi; simp at hi
    simp only [Value.slice.injEq] at e
    obtain ⟨rfl, _, rfl⟩ := e
    have HB := Lib.hid hB; have HM := Lib.hid hm; have HLC := Lib.hid hlc; have HN := Lib.hid hn
    clear h hl hL hb hi hB hm hlc hn
    go_enter Tryz.func98, Tryz.ntmps98
    go_wp2_with (first
      | (go_at_call 97; refine (peek_any H.out HL.out HN.out _).mono ?_; rintro e w1 ⟨v1, rfl, k1⟩; rw [HBB.out]; rw [← HLE.out] at k1; obtain ⟨A1, c1, rfl⟩ := k1.own.rd.shape; have N1 := Lib.hid (H.out.no k1.kp); have d1 : w1.cell? ⟨p, 0, none⟩ = some (.slice (some ⟨g, 0, none⟩) l.length cap) := (blk_cell N1.out.blk 0).trans rfl; have K1 := Lib.hid k1; clear k1)
      | (go_at_call 131; refine (deleteS_any g cap l i _ _ rfl HI.out HN.out HLC.out HM.out (HB.out.kp K1.out.kp (no_no _)) _ _ rfl rfl).mono ?_; rintro e w2 ⟨rfl, k2, b2⟩; have d2 : w2.cell? ⟨p, 0, none⟩ = some (.slice (some ⟨g, 0, none⟩) l.length cap) := (k2.cellS d1 (fun e => N1.out.ne2 True (by have e : p = g := e; rw [e]; rfl))); have e2 : w2.frozen? ⟨p, 0, none⟩ = false := blk_free (k2.blk N1.out.blk (fun e => N1.out.ne2 True (by have e : p = g := e; rw [e]; rfl))) 0; have K2 := Lib.hid k2; have B2 := Lib.hid b2; clear k2 b2))
    go_ret2
    have kk : Kp (fun k => (Value.slice (some ⟨g, 0, none⟩) l.length cap).ownBlock = some k) w1 w2 := K2.out.mono fun k _ e => by have e : k = g := e; rw [e]; rfl
    obtain ⟨r1, r2⟩ := net_back (l' := l.eraseIdx i) N1.out kk (B2.out.own HM.out) (fun y hy => (N1.out.el y (List.mem_of_mem_eraseIdx hy)).kpB kk (Byt.own N1.out.own (by decide)))
    refine ⟨.slice A1 L.length c1, by rw [HBB.out]; rfl, ?_, K1.out.ge, ?_, (K1.out.kp.mono fun _ _ e => e.elim).trans r2⟩
    · rw [← HLE.out]
      exact K1.out.own.kpB r2 N1.out.byt
    · refine ⟨.slice (some ⟨g, 0, none⟩) (l.eraseIdx i).length cap, ?_, fun g hg => hg⟩
      unfold delB
      rw [if_pos HBB.out]
      exact r1
  · have hb : hasB l.length x = false := by simpa using hb
    have HBB := Lib.hid hb
    have HN := Lib.hid hn
    clear h hl hL hb hn
    go_enter Tryz.func98, Tryz.ntmps98
    go_wp2_with (first
      | (go_at_call 97; refine (peek_any H.out HL.out HN.out _).mono ?_; rintro e w1 ⟨v1, rfl, k1⟩; rw [HBB.out]; rw [← HLE.out] at k1; obtain ⟨A1, c1, rfl⟩ := k1.own.rd.shape; have K1 := Lib.hid k1; clear k1))
    go_ret2
    refine ⟨.slice A1 L.length c1, by rw [HBB.out]; rfl, by rw [← HLE.out]; exact K1.out.own, K1.out.ge, ⟨_, ?_, fun g hg => hg⟩, K1.out.kp.mono fun _ _ e => e.elim⟩
    unfold delB
    rw [if_neg (by rw [HBB.out]; decide)]
    exact H.out.no K1.out.kp

set_option maxRecDepth 100000 in
theorem lose_any {w : World} {p : Nat} {V : Value} {l : List SlH} (h : NetS p V l w) (hl : ∀ x ∈ l, x.b.length ≤ 1000000) (hn : l.length ≤ 1000000) (x : Int) (hx : (Lit.int .i64 x).wf = true) : Calls Tryz.prog 67 #[.pointer (some ⟨p, 0, none⟩), .int .i64 x] w fun e w' => e = .returned (.bool (hasB l.length x)) ∧ TakeNS p V l x w w' := by
  have H := Lib.hid h; have HL := Lib.hid hl; have HN := Lib.hid hn; have HX := Lib.hid hx
  clear h hl hn hx
  go_enter Tryz.func67, Tryz.ntmps67
  go_wp2_with (go_at_call 98; refine (takeN_any H.out HL.out HN.out x HX.out).mono ?_; rintro e w1 ⟨v1, rfl, _, _, k1⟩; have K1 := Lib.hid k1; clear k1)
  go_ret
  exact ⟨rfl, K1.out⟩
end Go.Proofs.YtfpikgkbccgchaaGreatDoor

namespace Go.Proofs.YtfpikgkbccgchaaGreatDoor
set_option linter.unusedVariables false
set_option linter.unusedSimpArgs false
open Go.RowKit

/-- A unit: where its robot, its networks lie; what they are. -/
structure Un where
  pr : Nat
  ph : Nat
  ps : Nat
  pt : Nat
  pf : Nat
  pa : Option Nat
  V : Value
  VT : Value
  VF : Value
  R : Rob
  T : List SlH
  F : List SlH
def Un.ptr (u : Un) : Nat × Nat × Nat := (u.pr, u.pt, u.pf)
/-- The blocks that a unit's doings write. -/
def UnB (u : Un) (k : Nat) : Prop := k = u.pr ∨ k = u.ph ∨ k = u.ps ∨ k = u.pt ∨ k = u.pf ∨ u.VT.ownBlock = some k ∨ u.VF.ownBlock = some k
theorem RobS.apart {p ph ps : Nat} {pa : Option Nat} {V : Value} {R : Rob} {w w' : World} {S : Nat → Prop} {ts : List TypeId} (h : RobS p ph ps pa V R w) (hk : Kp S w w') (h1 : ¬ S p) (h2 : ¬ S ph) (h3 : ¬ S ps) (hs : Ty w S ts) (ht : 40 ∉ ts ∧ 5 ∉ ts) : RobS p ph ps pa V R w' :=
  ⟨hk.blk h.blk h1, h.non, fun k c q e => let ⟨a, e1, e2⟩ := h.act k c q e; ⟨a, e1, hk.blk e2 (hs.not e2 ht.1)⟩, h.r.far hk h2, h.s.far hk h3 (hs.notO h.s.own ht.2)⟩
structure UnM (G : Nat → Prop) (n0 : Nat) (u : Un) (w : World) : Prop where
  rob : RobS u.pr u.ph u.ps u.pa u.V u.R w
  to_ : NetS u.pt u.VT u.T w
  fr : NetS u.pf u.VF u.F w
  ne : u.pt ≠ u.pf
  nv : ∀ g, u.VT.ownBlock = some g → ¬ u.VF.ownBlock = some g
  ge : ∀ k, UnB u k → G k ∨ n0 ≤ k
  ok : u.R.ok
  lt : u.T.length ≤ 1024 ∧ ∀ x ∈ u.T, x.b.length ≤ 1000000
  lf : u.F.length ≤ 1024 ∧ ∀ x ∈ u.F, x.b.length ≤ 1000000
def unT : List TypeId := [147, 185, 187, 150, 41]
section
variable {G : Nat → Prop} {n0 : Nat} {u u' : Un} {w w' : World} {S : Nat → Prop}
theorem UnM.ty (h : UnM G n0 u w) : Ty w (UnB u) unT := by
  unfold unT
  rintro g (rfl | rfl | rfl | rfl | rfl | e | e)
  · exact ⟨_, _, by simp, h.rob.blk⟩
  · exact ⟨_, _, by simp, h.rob.r.blk⟩
  · exact ⟨_, _, by simp, h.rob.s.blk⟩
  · exact ⟨_, _, by simp, h.to_.blk⟩
  · exact ⟨_, _, by simp, h.fr.blk⟩
  · obtain ⟨cs, t, h1, h2⟩ := Ty.own h.to_.own g e
    obtain rfl := List.mem_singleton.1 h1
    exact ⟨cs, _, by simp, h2⟩
  · obtain ⟨cs, t, h1, h2⟩ := Ty.own h.fr.own g e
    obtain rfl := List.mem_singleton.1 h1
    exact ⟨cs, _, by simp, h2⟩
theorem UnM.lt_ (h : UnM G n0 u w) {k : Nat} (hk : UnB u k) : k < w.heap.size := by
  obtain ⟨cs, t, _, h2⟩ := h.ty k hk
  exact lt_of_block h2
theorem UnM.far (h : UnM G n0 u w) (hk : Kp S w w') (hs : ∀ k, UnB u k → ¬ S k) {ts : List TypeId} (ty : Ty w S ts) (ht : 40 ∉ ts ∧ 5 ∉ ts) : UnM G n0 u w' :=
  ⟨h.rob.apart hk (hs _ (.inl rfl)) (hs _ (.inr (.inl rfl))) (hs _ (.inr (.inr (.inl rfl)))) ty ht,
   h.to_.far hk (hs _ (.inr (.inr (.inr (.inl rfl))))) (fun g hg => hs _ (.inr (.inr (.inr (.inr (.inr (.inl hg))))))) (ty.byt ht.2),
   h.fr.far hk (hs _ (.inr (.inr (.inr (.inr (.inl rfl)))))) (fun g hg => hs _ (.inr (.inr (.inr (.inr (.inr (.inr hg))))))) (ty.byt ht.2),
   h.ne, h.nv, h.ge, h.ok, h.lt, h.lf⟩
theorem UnM.no (h : UnM G n0 u w) (hk : Kp No w w') : UnM G n0 u w' := h.far hk (fun _ _ => no_no _) (Ty.no w) ⟨by simp, by simp⟩
/-- The robot did something. -/
theorem UnM.robTo {R' : Rob} (h : UnM G n0 u w) (t : RobTo u.pr u.ph u.ps u.pa u.V R' w w') (ok : R'.ok) : ∃ u', UnM G n0 u' w' ∧ u'.R = R' ∧ u'.T = u.T ∧ u'.F = u.F ∧ u'.ptr = u.ptr ∧ (∀ k, UnB u' k → UnB u k) := by
  obtain ⟨⟨pa', V', h1, _, _⟩, hk⟩ := t
  have ty := h.rob.ty3
  refine ⟨{ u with pa := pa', V := V', R := R' }, ⟨h1, ?_, ?_, h.ne, h.nv, h.ge, ok, h.lt, h.lf⟩, rfl, rfl, rfl, rfl, fun k hk => hk⟩
  · exact h.to_.far hk (ty.not h.to_.blk (by decide)) (ty.notO h.to_.own (by decide)) (ty.byt (by decide))
  · exact h.fr.far hk (ty.not h.fr.blk (by decide)) (ty.notO h.fr.own (by decide)) (ty.byt (by decide))
/-- The network to it is another one. -/
theorem UnM.setT {V' : Value} {T' : List SlH} (h : UnM G n0 u w) (hn : n0 ≤ w.heap.size) (hk : Kp (fun k => k = u.pt ∨ u.VT.ownBlock = some k) w w') (net : NetS u.pt V' T' w') (hv : ∀ g, V'.ownBlock = some g → u.VT.ownBlock = some g ∨ w.heap.size ≤ g) (lt : T'.length ≤ 1024 ∧ ∀ x ∈ T', x.b.length ≤ 1000000) :
    ∃ u', UnM G n0 u' w' ∧ u'.R = u.R ∧ u'.T = T' ∧ u'.F = u.F ∧ u'.ptr = u.ptr ∧ (∀ k, UnB u' k → UnB u k ∨ w.heap.size ≤ k) := by
  have ty := (Ty.one h.to_.blk).or (Ty.own h.to_.own)
  refine ⟨{ u with VT := V', T := T' }, ⟨?_, net, ?_, h.ne, fun g hg hf => ?_, fun k hk => ?_, h.ok, lt, h.lf⟩, rfl, rfl, rfl, rfl, fun k hk => ?_⟩
  · exact h.rob.far hk ty ⟨by decide, by decide, by decide, by decide, by decide⟩
  · refine h.fr.far hk (fun e => ?_) (fun g hg e => ?_) (ty.byt (by decide))
    · rcases e with e | e
      · exact h.ne e.symm
      · exact own_neB h.to_.own h.fr.blk (by decide) _ e rfl
    · rcases e with e | e
      · exact own_neB h.fr.own h.to_.blk (by decide) _ hg e
      · exact h.nv g e hg
  · rcases hv g hg with e | e
    · exact h.nv g e hf
    · have := h.lt_ (k := g) (.inr (.inr (.inr (.inr (.inr (.inr hf)))))); omega
  · rcases hk with e | e | e | e | e | e | e
    · exact h.ge k (.inl e)
    · exact h.ge k (.inr (.inl e))
    · exact h.ge k (.inr (.inr (.inl e)))
    · exact h.ge k (.inr (.inr (.inr (.inl e))))
    · exact h.ge k (.inr (.inr (.inr (.inr (.inl e)))))
    · rcases hv k e with e | e
      · exact h.ge k (.inr (.inr (.inr (.inr (.inr (.inl e))))))
      · exact .inr (by omega)
    · exact h.ge k (.inr (.inr (.inr (.inr (.inr (.inr e))))))
  · rcases hk with e | e | e | e | e | e | e
    · exact .inl (.inl e)
    · exact .inl (.inr (.inl e))
    · exact .inl (.inr (.inr (.inl e)))
    · exact .inl (.inr (.inr (.inr (.inl e))))
    · exact .inl (.inr (.inr (.inr (.inr (.inl e)))))
    · exact (hv k e).imp (fun e => .inr (.inr (.inr (.inr (.inr (.inl e)))))) id
    · exact .inl (.inr (.inr (.inr (.inr (.inr (.inr e))))))
/-- The network from it is another one. -/
theorem UnM.setF {V' : Value} {F' : List SlH} (h : UnM G n0 u w) (hn : n0 ≤ w.heap.size) (hk : Kp (fun k => k = u.pf ∨ u.VF.ownBlock = some k) w w') (net : NetS u.pf V' F' w') (hv : ∀ g, V'.ownBlock = some g → u.VF.ownBlock = some g ∨ w.heap.size ≤ g) (lf : F'.length ≤ 1024 ∧ ∀ x ∈ F', x.b.length ≤ 1000000) :
    ∃ u', UnM G n0 u' w' ∧ u'.R = u.R ∧ u'.T = u.T ∧ u'.F = F' ∧ u'.ptr = u.ptr ∧ (∀ k, UnB u' k → UnB u k ∨ w.heap.size ≤ k) := by
  have ty := (Ty.one h.fr.blk).or (Ty.own h.fr.own)
  refine ⟨{ u with VF := V', F := F' }, ⟨?_, ?_, net, h.ne, fun g hg hf => ?_, fun k hk => ?_, h.ok, h.lt, lf⟩, rfl, rfl, rfl, rfl, fun k hk => ?_⟩
  · exact h.rob.far hk ty ⟨by decide, by decide, by decide, by decide, by decide⟩
  · refine h.to_.far hk (fun e => ?_) (fun g hg e => ?_) (ty.byt (by decide))
    · rcases e with e | e
      · exact h.ne e
      · exact own_neB h.fr.own h.to_.blk (by decide) _ e rfl
    · rcases e with e | e
      · exact own_neB h.to_.own h.fr.blk (by decide) _ hg e
      · exact h.nv g hg e
  · rcases hv g hf with e | e
    · exact h.nv g hg e
    · have := h.lt_ (k := g) (.inr (.inr (.inr (.inr (.inr (.inl hg)))))); omega
  · rcases hk with e | e | e | e | e | e | e
    · exact h.ge k (.inl e)
    · exact h.ge k (.inr (.inl e))
    · exact h.ge k (.inr (.inr (.inl e)))
    · exact h.ge k (.inr (.inr (.inr (.inl e))))
    · exact h.ge k (.inr (.inr (.inr (.inr (.inl e)))))
    · exact h.ge k (.inr (.inr (.inr (.inr (.inr (.inl e))))))
    · rcases hv k e with e | e
      · exact h.ge k (.inr (.inr (.inr (.inr (.inr (.inr e))))))
      · exact .inr (by omega)
  · rcases hk with e | e | e | e | e | e | e
    · exact .inl (.inl e)
    · exact .inl (.inr (.inl e))
    · exact .inl (.inr (.inr (.inl e)))
    · exact .inl (.inr (.inr (.inr (.inl e))))
    · exact .inl (.inr (.inr (.inr (.inr (.inl e)))))
    · exact .inl (.inr (.inr (.inr (.inr (.inr (.inl e))))))
    · exact (hv k e).imp (fun e => .inr (.inr (.inr (.inr (.inr (.inr e)))))) id
end

/-! ### The world -/
def UnK : Kd (Nat × Nat × Nat) := { sz := 3, enc := fun x => [.pointer (some ⟨x.1, 0, none⟩), .pointer (some ⟨x.2.1, 0, none⟩), .pointer (some ⟨x.2.2, 0, none⟩)], len := fun _ => rfl, one := by intro a v hv; simp at hv; rcases hv with rfl | rfl | rfl <;> rfl, pos := by decide }
def PdK : Kd (Int × Int) := { sz := 2, enc := fun x => [.int .i64 x.1, .int .i64 x.2], len := fun _ => rfl, one := by intro a v hv; simp at hv; rcases hv with rfl | rfl <;> rfl, pos := by decide }
theorem elUn : ElT Tryz.prog 74 89 UnK 24 := ElT.of (z := .agg #[.pointer none, .pointer none, .pointer none]) (by kernel_rfl) (by kernel_rfl) rfl
theorem elPd : ElT Tryz.prog 75 82 PdK 16 := ElT.of (z := .agg #[.int .i64 0, .int .i64 0]) (by kernel_rfl) (by kernel_rfl) rfl
def Apart (u v : Un) : Prop := ∀ k, UnB u k → ¬ UnB v k
/-- A world: pw points to it; uv has the units, pv the pods (cell, who carries it). -/
structure WldS (G : Nat → Prop) (w0 : World) (pw : Nat) (uv pv : Value) (U : List Un) (P : List (Int × Int)) (w : World) : Prop where
  blk : w.heap[pw]? = some (.cells #[uv, pv] 77 (0, 0))
  us : Own UnK 89 w uv (U.map Un.ptr)
  pd : Own PdK 82 w pv P
  un : ∀ (i : Nat) u, U[i]? = some u → UnM G w0.heap.size u w
  ap : ∀ (i j : Nat) u v, i ≠ j → U[i]? = some u → U[j]? = some v → Apart u v
  ge : (G pw ∨ w0.heap.size ≤ pw) ∧ (∀ g, uv.ownBlock = some g → G g ∨ w0.heap.size ≤ g) ∧ ∀ g, pv.ownBlock = some g → G g ∨ w0.heap.size ≤ g
  kp : Kp G w0 w
section
variable {G : Nat → Prop} {w0 : World} {pw : Nat} {uv pv : Value} {U : List Un} {P : List (Int × Int)} {w w' : World}
theorem WldS.no (h : WldS G w0 pw uv pv U P w) (hk : Kp No w w') : WldS G w0 pw uv pv U P w' :=
  ⟨hk.blk h.blk (no_no _), h.us.kpNo hk, h.pd.kpNo hk, fun i u hu => (h.un i u hu).no hk, h.ap, h.ge, h.kp.no hk⟩
theorem WldS.low {w1 : World} (h : WldS G w1 pw uv pv U P w) (hk : Kp No w0 w1) : WldS G w0 pw uv pv U P w := by
  have z := hk.size
  refine ⟨h.blk, h.us, h.pd, fun i u hu => ?_, h.ap, ⟨h.ge.1.imp id (Nat.le_trans z), fun g hg => (h.ge.2.1 g hg).imp id (Nat.le_trans z), fun g hg => (h.ge.2.2 g hg).imp id (Nat.le_trans z)⟩, (hk.mono fun _ _ e => e.elim).trans h.kp⟩
  obtain ⟨a, b, c, d, e, f, g, h1, h2⟩ := h.un i u hu
  exact ⟨a, b, c, d, e, fun k hk => (f k hk).imp id (Nat.le_trans z), g, h1, h2⟩
/-- The blocks that a world's doings write. -/
def WB (pw : Nat) (uv pv : Value) (U : List Un) (k : Nat) : Prop := k = pw ∨ uv.ownBlock = some k ∨ pv.ownBlock = some k ∨ ∃ (i : Nat) (u : Un), U[i]? = some u ∧ UnB u k
def wldT : List TypeId := [77, 89, 82] ++ unT
/-- A world, from now on. -/
theorem WldS.now (h : WldS G w0 pw uv pv U P w) : WldS (WB pw uv pv U) w pw uv pv U P w ∧ Ty w (WB pw uv pv U) wldT := by
  constructor
  · refine ⟨h.blk, h.us, h.pd, fun i u hu => ?_, h.ap, ⟨.inl (.inl rfl), fun g hg => .inl (.inr (.inl hg)), fun g hg => .inl (.inr (.inr (.inl hg)))⟩, Kp.refl _ _⟩
    obtain ⟨a, b, c, d, e, f, g, h1, h2⟩ := h.un i u hu
    exact ⟨a, b, c, d, e, fun k hk => .inl (.inr (.inr (.inr ⟨i, u, hu, hk⟩))), g, h1, h2⟩
  · unfold wldT
    rintro g (rfl | e | e | ⟨i, u, hu, e⟩)
    · exact ⟨_, _, by simp, h.blk⟩
    · obtain ⟨cs, t, h1, h2⟩ := Ty.own h.us g e
      obtain rfl := List.mem_singleton.1 h1
      exact ⟨cs, _, by simp, h2⟩
    · obtain ⟨cs, t, h1, h2⟩ := Ty.own h.pd g e
      obtain rfl := List.mem_singleton.1 h1
      exact ⟨cs, _, by simp, h2⟩
    · obtain ⟨cs, t, h1, h2⟩ := (h.un i u hu).ty g e
      exact ⟨cs, t, List.mem_append_right _ h1, h2⟩
/-- One unit did something. -/
theorem WldS.upd {S : Nat → Prop} {i : Nat} {u u' : Un} (h : WldS G w0 pw uv pv U P w) (hi : U[i]? = some u) (hk : Kp S w w') (hS : ∀ k, S k → UnB u k) (hu : UnM G w0.heap.size u' w') (hp : u'.ptr = u.ptr) (hb : ∀ k, UnB u' k → UnB u k ∨ w.heap.size ≤ k) : WldS G w0 pw uv pv (U.set i u') P w' := by
  have hm := h.un i u hi
  have ty : Ty w S unT := fun g hg => hm.ty g (hS g hg)
  have hil := (List.getElem?_eq_some_iff.1 hi).1
  have get : ∀ (j : Nat) v, (U.set i u')[j]? = some v → (i = j ∧ v = u') ∨ (i ≠ j ∧ U[j]? = some v) := by
    intro j v hv
    rw [List.getElem?_set] at hv
    by_cases e : i = j
    · rw [if_pos e, if_pos hil] at hv
      exact .inl ⟨e, (Option.some.inj hv).symm⟩
    · rw [if_neg e] at hv; exact .inr ⟨e, hv⟩
  refine ⟨hk.blk h.blk (ty.not h.blk (by decide)), ?_, h.pd.kp hk (ty.notO h.pd (by decide)), fun j v hv => ?_, fun j k v v' hjk hv hv' => ?_, h.ge, h.kp.trans' hk fun k hk e => ?_⟩
  · have e : (U.set i u').map Un.ptr = U.map Un.ptr := by
      rw [List.map_set, hp]
      refine List.ext_getElem? fun j => ?_
      rw [List.getElem?_set]
      by_cases e : i = j
      · subst e
        rw [if_pos rfl, if_pos (by simpa using hil), List.getElem?_map, hi]; rfl
      · rw [if_neg e]
    rw [e]
    exact h.us.kp hk (ty.notO h.us (by decide))
  · rcases get j v hv with ⟨_, rfl⟩ | ⟨e, hv⟩
    · exact hu
    · exact (h.un j v hv).far hk (fun k hk hs => h.ap i j u v e hi hv k (hS k hs) hk) ty ⟨by decide, by decide⟩
  · rcases get j v hv with ⟨e1, rfl⟩ | ⟨e1, hv1⟩ <;> rcases get k v' hv' with ⟨e2, rfl⟩ | ⟨e2, hv2⟩
    · omega
    · intro x hx hx2
      rcases hb x hx with h1 | h1
      · exact h.ap i k u v' e2 hi hv2 x h1 hx2
      · have := (h.un k v' hv2).lt_ hx2; omega
    · intro x hx hx2
      rcases hb x hx2 with h1 | h1
      · exact h.ap j i v u (fun e => e1 e.symm) hv1 hi x hx h1
      · have := (h.un j v hv1).lt_ hx; omega
    · exact h.ap j k v v' hjk hv1 hv2
  · exact (hm.ge k (hS k e)).resolve_right (by omega)
/-- The pods are others. -/
theorem WldS.pods {pv' : Value} {P' : List (Int × Int)} (h : WldS G w0 pw uv pv U P w) (hk : Kp (fun k => pv.ownBlock = some k) w w') (hp : Own PdK 82 w' pv P') : WldS G w0 pw uv pv U P' w' := by
  have ty := Ty.own h.pd
  refine ⟨hk.blk h.blk (ty.not h.blk (by decide)), h.us.kp hk (ty.notO h.us (by decide)), hp, fun i u hu => ?_, h.ap, h.ge, h.kp.trans' hk fun k hk e => ?_⟩
  · have hm := h.un i u hu
    refine hm.far hk (fun k hk hs => ?_) ty ⟨by decide, by decide⟩
    obtain ⟨cs, t, h1, h2⟩ := hm.ty k hk
    exact ty.not h2 (fun e => by rw [List.mem_singleton.1 e] at h1; revert h1; decide) hs
  · exact (h.ge.2.2 k e).resolve_right (by omega)
end
end Go.Proofs.YtfpikgkbccgchaaGreatDoor

namespace Go.Proofs.YtfpikgkbccgchaaGreatDoor
set_option linter.unusedVariables false
set_option linter.unusedSimpArgs false
open Go.RowKit

/-- A unit: the robot, what is under way to it and from it. -/
structure PU where
  R : Rob
  T : List (List Nat)
  F : List (List Nat)
def Un.pl (u : Un) : PU := ⟨u.R, u.T.map (·.b), u.F.map (·.b)⟩
def getP (W : List PU) (i : Int) : Option PU := if hasB W.length i then W[i.toNat]? else none
def atP (L : List (List Nat)) (x : Int) : List Nat := if hasB L.length x then (L[x.toNat]?).getD [] else []
def delP (L : List (List Nat)) (x : Int) : List (List Nat) := if hasB L.length x then L.eraseIdx x.toNat else L
def underP (W : List PU) (i : Int) : Nat × Nat := match getP W i with | none => (0, 0) | some u => (u.T.length, u.F.length)
def cellsP (W : List PU) (i : Int) : List Int := match getP W i with | none => [] | some u => cellsL u.R
def chargeP (W : List PU) (i : Int) : Int := match getP W i with | none => 0 | some u => u.R.charge
def doneP (W : List PU) (i : Int) : Nat := match getP W i with | none => 0 | some u => u.R.done
def cellP (W : List PU) (i : Int) : Int := (cellsP W i).headD 0
def podP (W : List PU) (P : List (Int × Int)) (i : Int) : Int × Int × Bool := if hasB P.length i then (match P[i.toNat]? with | none => (0, 0, false) | some x => if x.2 = -1 then (x.1, -1, true) else (cellP W x.2, x.2, true)) else (0, 0, false)
def sendP (W : List PU) (i : Int) (b : List Nat) : List PU × Int := match getP W i with
  | none => (W, 1)
  | some u => if 1024 ≤ u.T.length then (W, 4) else (W.set i.toNat { u with T := u.T ++ [b] }, 0)
/-- A packet has come to a robot. -/
def heardU (u : PU) (b : List Nat) : PU :=
  if tkE b = 0 ∧ tkH b = true then { u with R := heardS u.R b }
  else { u with R := hearS u.R b, F := if hearB u.R b = [] ∨ 1024 ≤ u.F.length then u.F else u.F ++ [hearB u.R b] }
def deliverP (W : List PU) (i at_ : Int) (keep : Bool) : List PU × Bool := match getP W i with
  | none => (W, false)
  | some u => if hasB u.T.length at_ then (W.set i.toNat (heardU { u with T := if keep then u.T else delP u.T at_ } (atP u.T at_)), true) else (W, false)
def tellP (W : List PU) (i : Int) : List PU × Bool := match getP W i with
  | none => (W, false)
  | some u => if u.R.on = true then (if 1024 ≤ u.F.length then (W, false) else (W.set i.toNat { u with F := u.F ++ [pktL u.R.told u.R.on []] }, true)) else (W, false)
def fetchP (W : List PU) (i at_ : Int) (keep : Bool) : List PU × List Nat × Bool := match getP W i with
  | none => (W, [], false)
  | some u => if hasB u.F.length at_ then (W.set i.toNat { u with F := if keep then u.F else delP u.F at_ }, atP u.F at_, true) else (W, [], false)
def loseP (W : List PU) (i : Int) (back : Bool) (at_ : Int) : List PU × Bool := match getP W i with
  | none => (W, false)
  | some u => if back then (W.set i.toNat { u with F := delP u.F at_ }, hasB u.F.length at_) else (W.set i.toNat { u with T := delP u.T at_ }, hasB u.T.length at_)
/-- Can an act be done? -/
def canP (P : List (Int × Int)) (i : Int) (k : Nat) (p : Int) (cell : Int) : Bool :=
  if k = 2 then decide (p < (P.length : Int)) && decide (P[p.toNat]? = some (cell, -1)) && !(P.any fun x => decide (x.2 = i))
  else if k = 3 then decide (p < (P.length : Int)) && decide ((P[p.toNat]?).map (·.2) = some i) && !(P.any fun x => decide (x = (cell, -1)))
  else true
def stepP (W : List PU) (P : List (Int × Int)) (i : Int) : List PU × List (Int × Int) × Int := match getP W i with
  | none => (W, P, 1)
  | some u => match u.R.act with
    | none => (W, P, 2)
    | some (k, _, p) =>
      if canP P i k p (cellP W i) = true then
        (W.set i.toNat { u with R := stepS u.R }, if stepB u.R = true then (if k = 2 then (match P[p.toNat]? with | some x => P.set p.toNat (x.1, i) | none => P) else if k = 3 then P.set p.toNat (cellP W i, -1) else P) else P, 0)
      else (W, P, 190)
/-- A world in memory, and what it is. -/
def WldP (G : Nat → Prop) (w0 : World) (pw : Nat) (W : List PU) (P : List (Int × Int)) (w : World) : Prop := ∃ uv pv U, WldS G w0 pw uv pv U P w ∧ U.map Un.pl = W
theorem WldP.no {G : Nat → Prop} {w0 w w' : World} {pw : Nat} {W : List PU} {P : List (Int × Int)} (h : WldP G w0 pw W P w) (hk : Kp No w w') : WldP G w0 pw W P w' := let ⟨uv, pv, U, h1, h2⟩ := h; ⟨uv, pv, U, h1.no hk, h2⟩
theorem WldP.kp {G : Nat → Prop} {w0 w : World} {pw : Nat} {W : List PU} {P : List (Int × Int)} (h : WldP G w0 pw W P w) : Kp G w0 w := let ⟨_, _, _, h1, _⟩ := h; h1.kp
theorem WldP.low {G : Nat → Prop} {w0 w1 w : World} {pw : Nat} {W : List PU} {P : List (Int × Int)} (h : WldP G w1 pw W P w) (hk : Kp No w0 w1) : WldP G w0 pw W P w := let ⟨uv, pv, U, h1, h2⟩ := h; ⟨uv, pv, U, h1.low hk, h2⟩
/-- A world, from now on: what it writes is of its own types. -/
theorem WldP.now {G : Nat → Prop} {w0 w : World} {pw : Nat} {W : List PU} {P : List (Int × Int)} (h : WldP G w0 pw W P w) : ∃ G', WldP G' w pw W P w ∧ Ty w G' wldT := let ⟨uv, pv, U, h1, h2⟩ := h; ⟨_, ⟨uv, pv, U, h1.now.1, h2⟩, h1.now.2⟩
/-- Back to the older base. -/
theorem WldP.back {G G' : Nat → Prop} {w0 w w' : World} {pw : Nat} {W W' : List PU} {P P' : List (Int × Int)} (h : WldP G w0 pw W P w) (h2 : WldP G' w pw W' P' w') : Kp G' w w' := h2.kp
end Go.Proofs.YtfpikgkbccgchaaGreatDoor

namespace Go.Proofs.YtfpikgkbccgchaaGreatDoor
set_option linter.unusedVariables false
set_option linter.unusedSimpArgs false
open Go.RowKit

def getU (U : List Un) (i : Int) : Option Un := if hasB U.length i then U[i.toNat]? else none
def ptrV (o : Option Un) : Value := match o with
  | none => .agg #[.pointer none, .pointer none, .pointer none]
  | some u => .agg #[.pointer (some ⟨u.pr, 0, none⟩), .pointer (some ⟨u.pt, 0, none⟩), .pointer (some ⟨u.pf, 0, none⟩)]
theorem getU_some {U : List Un} {i : Int} {u : Un} (h : getU U i = some u) : ∃ k : Nat, i = k ∧ U[k]? = some u := by
  unfold getU at h
  split at h
  · rename_i hb
    obtain ⟨k, rfl, hk⟩ := hasB_nat hb
    exact ⟨k, rfl, by simpa using h⟩
  · cases h
theorem getU_of {U : List Un} {k : Nat} {u : Un} (h : U[k]? = some u) : getU U (k : Int) = some u := by
  have hk := (List.getElem?_eq_some_iff.1 h).1
  unfold getU hasB
  rw [if_pos (by simp; omega)]
  simpa using h
theorem getP_pl (U : List Un) (i : Int) : getP (U.map Un.pl) i = (getU U i).map Un.pl := by
  unfold getP getU
  rw [List.length_map, List.getElem?_map]
  split <;> rfl
theorem unit_fin {w : World} {vs : Array Value} (v : Value) : Kp No w (w.alloc (.cells vs 89)) := (Kp.refl _ _).alloc _
set_option maxRecDepth 100000 in
theorem unit_nil (w : World) (i : Int) : Calls Tryz.prog 53 #[.pointer none, .int .i64 i] w fun e w' => e = .returned (ptrV none) ∧ Kp No w w' := by
  go_enter Tryz.func53, Tryz.ntmps53
  go_wp2
  exact bodyPost_ret (v := .agg #[.pointer none, .pointer none, .pointer none]) (by simp [results, Tryz.results53, go_sem]) rfl ⟨rfl, (Kp.refl _ _).alloc _⟩
set_option maxRecDepth 100000 in
theorem unit_any {G : Nat → Prop} {w0 w : World} {pw : Nat} {uv pv : Value} {U : List Un} {P : List (Int × Int)} (h : WldS G w0 pw uv pv U P w) (i : Int) : Calls Tryz.prog 53 #[.pointer (some ⟨pw, 0, none⟩), .int .i64 i] w fun e w' => e = .returned (ptrV (getU U i)) ∧ Kp No w w' := by
  obtain ⟨A, cap, rfl⟩ := h.us.rd.shape
  obtain ⟨n, hn⟩ : ∃ z, z = U.length := ⟨_, rfl⟩
  have hus := h.us.rd
  rw [List.length_map, ← hn] at hus
  have hc : ∀ o, (w.alloc o).cell? ⟨pw, 0, none⟩ = some (.slice A n cap) := fun o => by
    have := (blk_cell (blk_alloc h.blk o) 0).trans rfl
    rw [this, List.length_map, ← hn]; rfl
  by_cases h0 : i < 0
  · have HE := Lib.hid (show getU U i = none by unfold getU hasB; rw [if_neg (by simp; omega)])
    clear hus h hn
    go_enter Tryz.func53, Tryz.ntmps53
    go_wp2
    exact bodyPost_ret (v := .agg #[.pointer none, .pointer none, .pointer none]) (by simp [results, Tryz.results53, go_sem]) rfl ⟨by rw [HE.out]; rfl, (Kp.refl _ _).alloc _⟩
  · obtain ⟨k, rfl⟩ : ∃ k : Nat, i = k := ⟨i.toNat, by omega⟩
    have h0I : ¬ (k : Int) < 0 := by omega
    by_cases hk : n ≤ k
    · have HE := Lib.hid (show getU U (k : Int) = none by unfold getU hasB; rw [if_neg (by simp; omega)])
      have hkI : (n : Int) ≤ (k : Int) := by omega
      clear hus h hn hk h0
      go_enter Tryz.func53, Tryz.ntmps53
      go_wp2
      exact bodyPost_ret (v := .agg #[.pointer none, .pointer none, .pointer none]) (by simp [results, Tryz.results53, go_sem]) rfl ⟨by rw [HE.out]; rfl, (Kp.refl _ _).alloc _⟩
    · obtain ⟨u, hu⟩ : ∃ u, U[k]? = some u := ⟨_, List.getElem?_eq_getElem (by omega)⟩
      have HE := Lib.hid (getU_of hu)
      have hkI : ¬ (n : Int) ≤ (k : Int) := by omega
      have hkJ : (k : Int) < (n : Int) := by omega
      have hum : (U.map Un.ptr)[k]? = some u.ptr := by rw [List.getElem?_map, hu]; rfl
      rcases hus with ⟨_, he⟩ | ⟨g, o, cap', hv, q⟩
      · rw [he] at hum; cases hum
      have hus : Rd UnK w (.slice A n cap) (U.map Un.ptr) := .inr ⟨g, o, cap', hv, q⟩
      simp only [Value.slice.injEq] at hv
      obtain ⟨rfl, hzz, rfl⟩ := hv
      have e0 : ∀ oo, (w.alloc oo).cell? ⟨g, o + k * 3, none⟩ = some (.pointer (some ⟨u.pr, 0, none⟩)) := fun oo => (hus.alloc oo).at rfl hum (j := 0) rfl
      have e1 : ∀ oo, (w.alloc oo).cell? ⟨g, o + k * 3 + 1, none⟩ = some (.pointer (some ⟨u.pt, 0, none⟩)) := fun oo => (hus.alloc oo).at rfl hum (j := 1) rfl
      have e2 : ∀ oo, (w.alloc oo).cell? ⟨g, o + k * 3 + 2, none⟩ = some (.pointer (some ⟨u.pf, 0, none⟩)) := fun oo => (hus.alloc oo).at rfl hum (j := 2) rfl
      have e3 : ∀ oo, (w.alloc oo).cell? ⟨g, o + k * 3 + 1 + 1, none⟩ = some (.pointer (some ⟨u.pf, 0, none⟩)) := e2
      clear hus h hn hk h0 hu hum hzz q
      go_enter Tryz.func53, Tryz.ntmps53
      go_wp2
      exact bodyPost_ret (v := .agg #[.pointer (some ⟨u.pr, 0, none⟩), .pointer (some ⟨u.pt, 0, none⟩), .pointer (some ⟨u.pf, 0, none⟩)]) (by simp [results, Tryz.results53, go_sem]) rfl ⟨by rw [HE.out]; rfl, (Kp.refl _ _).alloc _⟩

theorem fld0 (a b c : Value) (w : World) : (Instr.field 89 (.agg #[a, b, c]) 0).run Tryz.prog w = .ok a w := by kernel_rfl
theorem fld2 (a b c : Value) (w : World) : (Instr.field 89 (.agg #[a, b, c]) 2).run Tryz.prog w = .ok c w := by kernel_rfl
/-! ### has -/
def hasE (n : Nat) (i : Int) : Int := if hasB n i then 0 else 1
set_option maxRecDepth 100000 in
theorem whas_nil (w : World) (i : Int) : Calls Tryz.prog 58 #[.pointer none, .int .i64 i] w fun e w' => e = .returned (.int .i64 2) ∧ w = w' := by
  go_enter Tryz.func58, Tryz.ntmps58
  go_wp2
  go_ret
  exact ⟨rfl, rfl⟩
set_option maxRecDepth 100000 in
theorem whas_any {G : Nat → Prop} {w0 w : World} {pw : Nat} {uv pv : Value} {U : List Un} {P : List (Int × Int)} (h : WldS G w0 pw uv pv U P w) (i : Int) : Calls Tryz.prog 58 #[.pointer (some ⟨pw, 0, none⟩), .int .i64 i] w fun e w' => e = .returned (.int .i64 (hasE U.length i)) ∧ w = w' := by
  obtain ⟨A, cap, rfl⟩ := h.us.rd.shape
  obtain ⟨n, hn⟩ : ∃ z, z = U.length := ⟨_, rfl⟩
  have hc : w.cell? ⟨pw, 0, none⟩ = some (.slice A n cap) := by
    have := (blk_cell h.blk 0).trans rfl
    rw [this, List.length_map, ← hn]; rfl
  rw [← hn]
  clear h hn
  by_cases h0 : i < 0
  · have HE := Lib.hid (show hasE n i = 1 by unfold hasE hasB; rw [if_neg (by simp; omega)])
    go_enter Tryz.func58, Tryz.ntmps58
    go_wp2
    go_ret
    exact ⟨by rw [HE.out]; rfl, rfl⟩
  · by_cases hk : (n : Int) ≤ i
    · have HE := Lib.hid (show hasE n i = 1 by unfold hasE hasB; rw [if_neg (by simp; omega)])
      go_enter Tryz.func58, Tryz.ntmps58
      go_wp2
      go_ret
      exact ⟨by rw [HE.out]; rfl, rfl⟩
    · have HE := Lib.hid (show hasE n i = 0 by unfold hasE hasB; rw [if_pos (by simp; omega)])
      go_enter Tryz.func58, Tryz.ntmps58
      go_wp2
      go_ret
      exact ⟨by rw [HE.out]; rfl, rfl⟩

/-! ### nil robots, nil networks -/
theorem len_nil (w : World) : Calls Tryz.prog 57 #[.pointer none] w fun e w' => e = .returned (.int .i64 0) ∧ w = w' := by
  go_enter Tryz.func57, Tryz.ntmps57
  go_wp2
  go_ret
  exact ⟨rfl, rfl⟩
theorem len_any {w : World} {p : Nat} {V : Value} {l : List SlH} (h : NetS p V l w) : Calls Tryz.prog 57 #[.pointer (some ⟨p, 0, none⟩)] w fun e w' => e = .returned (.int .i64 (l.length : Int)) ∧ w = w' := by
  obtain ⟨A, cap, rfl⟩ := h.own.rd.shape
  have c0 : w.cell? ⟨p, 0, none⟩ = some (.slice A l.length cap) := (blk_cell h.blk 0).trans rfl
  clear h
  go_enter Tryz.func57, Tryz.ntmps57
  go_wp2
  go_ret
  exact ⟨rfl, rfl⟩
theorem send_nil (w : World) (v : Value) : Calls Tryz.prog 59 #[.pointer none, v] w fun e w' => e = .returned (.int .i64 2) ∧ w = w' := by
  go_enter Tryz.func59, Tryz.ntmps59
  go_wp2
  go_ret
  exact ⟨rfl, rfl⟩
theorem peek_nil (w : World) (x : Int) : Calls Tryz.prog 97 #[.pointer none, .int .i64 x] w fun e w' => e = .returned (.tuple #[.slice none 0 0, .bool false]) ∧ w = w' := by
  go_enter Tryz.func97, Tryz.ntmps97
  go_wp2
  go_ret2
  exact ⟨rfl, rfl⟩
theorem take_nil (w : World) (x : Int) : Calls Tryz.prog 98 #[.pointer none, .int .i64 x] w fun e w' => e = .returned (.tuple #[.slice none 0 0, .bool false]) ∧ w = w' := by
  go_enter Tryz.func98, Tryz.ntmps98
  go_wp2_with fail
  refine (peek_nil w x).mono ?_
  rintro e w1 ⟨rfl, rfl⟩
  go_wp2
  go_ret2
  exact ⟨rfl, rfl⟩
theorem lose_nil (w : World) (x : Int) : Calls Tryz.prog 67 #[.pointer none, .int .i64 x] w fun e w' => e = .returned (.bool false) ∧ w = w' := by
  go_enter Tryz.func67, Tryz.ntmps67
  go_wp2_with fail
  refine (take_nil w x).mono ?_
  rintro e w1 ⟨rfl, rfl⟩
  go_wp2
  go_ret
  exact ⟨rfl, rfl⟩
theorem cells_nil (w : World) : Calls Tryz.prog 54 #[.pointer none] w fun e w' => e = .returned (.slice none 0 0) ∧ w = w' := by
  go_enter Tryz.func54, Tryz.ntmps54
  go_wp2
  go_ret
  exact ⟨rfl, rfl⟩
theorem charge_nil (w : World) : Calls Tryz.prog 68 #[.pointer none] w fun e w' => e = .returned (.int .i64 0) ∧ w = w' := by
  go_enter Tryz.func68, Tryz.ntmps68
  go_wp2
  go_ret
  exact ⟨rfl, rfl⟩
theorem done_nil (w : World) : Calls Tryz.prog 69 #[.pointer none] w fun e w' => e = .returned (.int .u64 0) ∧ w = w' := by
  go_enter Tryz.func69, Tryz.ntmps69
  go_wp2
  go_ret
  exact ⟨rfl, rfl⟩
theorem rpkt_nil (w : World) : Calls Tryz.prog 66 #[.pointer none] w fun e w' => e = .returned (.tuple #[.slice none 0 0, .bool false]) ∧ w = w' := by
  go_enter Tryz.func66, Tryz.ntmps66
  go_wp2
  go_ret2
  exact ⟨rfl, rfl⟩
end Go.Proofs.YtfpikgkbccgchaaGreatDoor

namespace Go.Proofs.YtfpikgkbccgchaaGreatDoor
set_option linter.unusedVariables false
set_option linter.unusedSimpArgs false
open Go.RowKit

/-- A string's byte. -/
def bt (s : ByteArray) (i : Nat) : Nat := if h : i < s.size then (s[i]'h).toNat else 0
theorem bt_lt (s : ByteArray) (i : Nat) : bt s i < 256 := by unfold bt; split; exact UInt8.toNat_lt _; decide
theorem bt_at (s : ByteArray) (i : Nat) (h : i < s.size) : (s[i]'h).toNat = bt s i := by unfold bt; rw [dif_pos h]
theorem bt_atI (s : ByteArray) (i : Nat) (h : (i : Int).toNat < s.size) : (s[(i : Int).toNat]'h).toNat = bt s i := bt_at s i h

structure Flr where
  W : Int
  H : Int
  s : ByteArray
def Flr.val (f : Flr) : Value := .agg #[.int .i64 f.W, .int .i64 f.H, .string f.s]
def kindB (c : Nat) : Nat := if c = 35 then 1 else if 97 ≤ c ∧ c ≤ 122 then 2 else if 48 ≤ c ∧ c < 56 then 3 else 0
theorem kindB_le (c : Nat) : kindB c ≤ 3 := by unfold kindB; split; decide; split; decide; split <;> decide
def Flr.kd (f : Flr) (i : Nat) : Nat := kindB (bt f.s i)

/-- What is beside a cell: above, right, below, left. -/
def besideP (W H c : Nat) : List Nat := (if 0 < c / W then [c - W] else []) ++ (if c % W + 1 < W then [c + 1] else []) ++ (if c / W + 1 < H then [c + W] else []) ++ (if 0 < c % W then [c - 1] else [])
def ints (l : List Nat) : List Int := l.map fun (x : Nat) => (x : Int)
/-- The k-th direction's. -/
def bsPart (W H c : Nat) : Nat → List Nat
  | 0 => if 0 < c / W then [c - W] else []
  | 1 => if c % W + 1 < W then [c + 1] else []
  | 2 => if c / W + 1 < H then [c + W] else []
  | 3 => if 0 < c % W then [c - 1] else []
  | _ => []
def bsA (W H c k : Nat) : List Nat := (List.range k).flatMap (bsPart W H c)
theorem bsA_succ (W H c k : Nat) : bsA W H c (k + 1) = bsA W H c k ++ bsPart W H c k := by unfold bsA; rw [List.range_succ, List.flatMap_append]; simp
theorem bsA_four (W H c : Nat) : bsA W H c 4 = besideP W H c := by
  rw [bsA_succ, bsA_succ, bsA_succ, bsA_succ]
  simp [bsA, bsPart, besideP]
theorem bsPart_len (W H c k : Nat) : (bsPart W H c k).length ≤ 1 := by unfold bsPart; split <;> first | (split <;> simp) | simp
theorem bsA_len (W H c k : Nat) : (bsA W H c k).length ≤ k := by
  induction k with
  | zero => simp [bsA]
  | succ k ih => rw [bsA_succ, List.length_append]; have := bsPart_len W H c k; omega
theorem ints_len (l : List Nat) : (ints l).length = l.length := by simp [ints]
theorem ints_app (a b : List Nat) : ints (a ++ b) = ints a ++ ints b := by simp [ints]
end Go.Proofs.YtfpikgkbccgchaaGreatDoor

namespace Go.Proofs.YtfpikgkbccgchaaGreatDoor
set_option linter.unusedVariables false
set_option linter.unusedSimpArgs false
open Go.RowKit

theorem NewS.from_ {α : Type} {K : Kd α} {e : TypeId} {w w3 w' : World} {v : Value} {l : List α} (h : NewS K e w3 w' v l) (hk : Kp No w w3) : NewS K e w w' v l :=
  ⟨h.own, fun g hg => Nat.le_trans hk.size (h.ge g hg), hk.no h.kp⟩
theorem wpl_snocZ {w w0 : World} {ops : Array Oper} {rest : List Oper} {o : Oper} {a : Act} {Q : Exit → Act → World → Prop} (hgd : o.guard = none) (s x : Operand)
    (ho : o.op = .call { callee := .builtin .append, args := #[s, x], argTypes := #[24, 24] }) {v : Value} {b m : Nat} {n : Nat} {z : Int} {L : List Nat} (hs : a.eval s = v) (hxv : a.eval x = .slice (some ⟨b, 0, none⟩) 1 1) (hb : b = w.heap.size) (hz : z = (n : Int))
    (ns : NewS IK 3 w0 w v (ints L)) (hm : m = L.length) (hl : m ≤ 1000000)
    (h : ∀ A q w', NewS IK 3 w0 w' (.slice A (m + 1) q) (ints (L ++ [n])) → Kp (fun k => v.ownBlock = some k) w w' → (∀ g, (Value.slice A (m + 1) q).ownBlock = some g → v.ownBlock = some g ∨ w.heap.size ≤ g) → wpList Tryz.prog ops Q rest (a.put o.dst (.slice A (m + 1) q)) w') :
    wpList Tryz.prog ops Q (o :: rest) a (w.alloc (.cells #[.int .i64 z] 3)) := by
  subst hb hm hz
  refine wpl_append elI hgd s x ho hs hxv (l := ints L) (m := [(n : Int)]) (ns.own.alloc _) (Rd.litAt IK 3 _ _ [(n : Int)] rfl (by unfold maxLen; simp) _ _ rfl rfl) (by rw [ints_len]; unfold maxLen; simp; omega) (by rw [ints_len]; simp; omega) ?_
  intro v' w' k1 k2 k3
  have e : ints L ++ [(n : Int)] = ints (L ++ [n]) := by simp [ints]
  rw [e] at k1
  have q := NewS.app2 k1 k2 k3 ((Kp.refl No w).alloc (.cells #[.int .i64 (n : Int)] 3)) ns (by simp)
  obtain ⟨A, c, rfl⟩ := k1.rd.shape
  rw [ints_len, List.length_append, List.length_singleton] at q k3 ⊢
  exact h A c w' q (((Kp.refl _ w).alloc _).trans k2) (fun g hg => by
    rcases k3 g hg with h | h
    · exact .inl h
    · simp at h
      exact .inr (by omega))
theorem wpl_snocI {w w0 : World} {ops : Array Oper} {rest : List Oper} {o : Oper} {a : Act} {Q : Exit → Act → World → Prop} (hgd : o.guard = none) (s x : Operand)
    (ho : o.op = .call { callee := .builtin .append, args := #[s, x], argTypes := #[24, 24] }) {v : Value} {b m : Nat} {n : Nat} {L : List Nat} (hs : a.eval s = v) (hxv : a.eval x = .slice (some ⟨b, 0, none⟩) 1 1) (hb : b = w.heap.size)
    (ns : NewS IK 3 w0 w v (ints L)) (hm : m = L.length) (hl : m ≤ 1000000)
    (h : ∀ A q w', NewS IK 3 w0 w' (.slice A (m + 1) q) (ints (L ++ [n])) → Kp (fun k => v.ownBlock = some k) w w' → (∀ g, (Value.slice A (m + 1) q).ownBlock = some g → v.ownBlock = some g ∨ w.heap.size ≤ g) → wpList Tryz.prog ops Q rest (a.put o.dst (.slice A (m + 1) q)) w') :
    wpList Tryz.prog ops Q (o :: rest) a (w.alloc (.cells #[.int .i64 (n : Int)] 3)) :=
  wpl_snocZ hgd s x ho hs hxv hb rfl ns hm hl h
end Go.Proofs.YtfpikgkbccgchaaGreatDoor
