/- carfaxref17: TakeAct; robots, as the laws use them: the state alone; robots: what packets do; the document's examples; Arguments that are slices of rows: what they read as. No function of the program; Arguments: bytes, packets; Slices of bytes in rows; Acts of carfaxlaw18: arguments, few; RobotOnce: plain, and the memory; RobotOnce: the walk; RobotOnce: the row's walk. No condition. -/
import Derived.Test.YtbafdfkmakehnaaM5
import Derived.Test.YtbafdfkmakehnaaM2
import Derived.Test.YtbafdfkmakehnaaM3
import Derived.Test.YtbafdfkmakehnaaM1
import Derived.Deep.Slices
import Derived.ProofKit
import Derived.OpenShut
import Derived.Lib.SmallJoins
import Derived.Deep.LoopGhost
import Derived.Deep.CutBlock
import Derived.Deep.DeepCutAuto
import Derived.Deep.Cut
import Derived.Deep.CutRange

namespace Go.Proofs.Ytbafdfkmakehnaa
set_option linter.unusedVariables false
set_option linter.unusedSimpArgs false
open Go.RowKit

set_option maxHeartbeats 1000000 in
set_option maxRecDepth 100000 in
theorem rtakeA_any {w : World} {v : Value} {B : List Nat} (h : Rd BK w v B) (hB : B.length ≤ 100000) (hx : ∀ x ∈ B, x < 256) : Calls Try.prog 51 #[v] w (TakeAR B w) := by
  obtain ⟨A, cap, rfl⟩ := h.shape
  obtain ⟨L, hL⟩ : ∃ L, L = unpackB B := ⟨_, rfl⟩
  obtain ⟨n1, hn1⟩ : ∃ n1, n1 = rgetN L 0 0 2 := ⟨_, rfl⟩
  obtain ⟨f1, hf1⟩ : ∃ f1, f1 = rgetF L 0 0 2 := ⟨_, rfl⟩
  obtain ⟨k, hk⟩ : ∃ k, k = rgetV L 0 0 2 := ⟨_, rfl⟩
  obtain ⟨n2, hn2⟩ : ∃ n2, n2 = rgetN L n1 f1 8 := ⟨_, rfl⟩
  obtain ⟨f2, hf2⟩ : ∃ f2, f2 = rgetF L n1 f1 8 := ⟨_, rfl⟩
  obtain ⟨c, hc⟩ : ∃ c, c = rgetV L n1 f1 8 := ⟨_, rfl⟩
  obtain ⟨n3, hn3⟩ : ∃ n3, n3 = rgetN L n2 f2 6 := ⟨_, rfl⟩
  obtain ⟨f3, hf3⟩ : ∃ f3, f3 = rgetF L n2 f2 6 := ⟨_, rfl⟩
  obtain ⟨p, hp⟩ : ∃ p, p = rgetV L n2 f2 6 := ⟨_, rfl⟩
  have T : TaV L n1 f1 n2 f2 n3 f3 k c p := ⟨hn1, hf1, hk, hn2, hf2, hc, hn3, hf3, hp⟩
  rw [hL] at T
  have hkl : k < 4 := by rw [hk]; exact rgetV_lt _ _ _ _
  have hcl : c < 256 := by rw [hc]; exact rgetV_lt _ _ _ _
  have hpl : p < 64 := by rw [hp]; exact rgetV_lt _ _ _ _
  have hl : L.length = 8 * B.length := by rw [hL]; exact unpackB_len B
  have hL8 : L.length ≤ 8000000 := by omega
  have hb1 : n1 ≤ L.length := by rw [hn1]; exact rgetN_le _ _ _ _ (by omega)
  have hb2 : n2 ≤ L.length := by rw [hn2]; exact rgetN_le _ _ _ _ (by omega)
  have HT := Lib.hid T
  have HL := Lib.hid hL
  have HN1 := Lib.hid hn1; have HF1 := Lib.hid hf1; have HK := Lib.hid hk; have HN2 := Lib.hid hn2; have HF2 := Lib.hid hf2; have HC := Lib.hid hc; have HN3 := Lib.hid hn3; have HF3 := Lib.hid hf3; have HP := Lib.hid hp
  have H := Lib.hid h; have HX := Lib.hid hx
  have i1 : (k : Int) < 256 := by omega
  have i2 : (c : Int) < 256 := by omega
  have i3 : (p : Int) < 64 := by omega
  obtain ⟨Y, hY⟩ : ∃ Y, Y = layA k (c : Int) (p : Int) := ⟨_, rfl⟩
  obtain ⟨E, hE⟩ : ∃ E, E = layAE k (c : Int) (p : Int) := ⟨_, rfl⟩
  have hcase : ((E != 0) = true ∧ tkaOk B = false) ∨ ((E != 0) = false ∧ Y ≠ B ∧ tkaOk B = false) ∨ ((E != 0) = false ∧ Y = B ∧ tkaOk B = true ∧ k = aK B ∧ c = aC B ∧ p = aP B) := by
    cases hm : mayA k (c : Int) (p : Int)
    · refine .inl ⟨by rw [hE]; unfold layAE; rw [hm]; rfl, ?_⟩
      unfold tkaOk
      by_cases hB2 : B.length = 2
      · obtain ⟨t1, t2, t3, _⟩ := T.two hB2
        rw [← t1, ← t2, ← t3, hm]; simp
      · simp [hB2]
    · have he : (E != 0) = false := by rw [hE]; unfold layAE; rw [hm]; rfl
      by_cases hB2 : B.length = 2
      · obtain ⟨t1, t2, t3, _⟩ := T.two hB2
        have ho : tkaOk B = true := by unfold tkaOk; rw [← t1, ← t2, ← t3, hm, hB2]; rfl
        exact .inr (.inr ⟨he, by rw [hY, t1, t2, t3]; exact lay_take hx ho, ho, t1, t2, t3⟩)
      · refine .inr (.inl ⟨he, fun e => hB2 ?_, by unfold tkaOk; simp [hB2]⟩)
        rw [← e, hY]; exact layA_len hm
  have HY := Lib.hid hY; have HE := Lib.hid hE
  have HYX := Lib.hid (show ∀ x ∈ Y, x < 256 by rw [hY]; exact layA_lt _ _ _)
  clear T h hx hl hL hn1 hf1 hk hn2 hf2 hc hn3 hf3 hp hY hE HT
  rcases hcase with ⟨hE1, hok⟩ | ⟨hE1, hne, hok⟩ | ⟨hE1, hYB, hok, t1, t2, t3⟩
  · have ERR : Hid (∀ w', Kp No w w' → TakeAR B w (.returned (.tuple #[.agg #[.int .u8 0, .int .i64 0, .int .i64 0], .int .i64 170])) w') := Lib.hid fun w' hk => by
      unfold TakeAR tkaK tkaC tkaP tkaE
      rw [hok]; exact ⟨rfl, hk⟩
    clear hok
    go_enter Try.func51, Try.ntmps51
    go_wp2_with fail
    refine (rof_any (H.out.kpNo ((Kp.refl No w).alloc _)) hB HX.out).mono ?_
    rintro e w1 ⟨q, rfl, V, a1⟩
    rw [← HL.out] at a1
    obtain ⟨br, hbr⟩ : ∃ br, br = w.heap.size := ⟨_, rfl⟩
    have R1 := Lib.hid (show w1.heap[br]? = some (.cells #[.int .u8 0, .int .i64 0, .int .i64 0] 32 (0, 0)) by rw [hbr]; exact a1.kp.blk (blk_new w _) (no_no _))
    have A1 := Lib.hid a1.at; have K1 := Lib.hid (show Kp No w w1 from ((Kp.refl No w).alloc _).trans a1.kp)
    have G1 := Lib.hid (show br < q by rw [hbr]; have := a1.po; simp at this; omega)
    have L1 := Lib.hid (show q < w1.heap.size from lt_of_block a1.blk)
    have VO := Lib.hid (show ∀ g, V.ownBlock = some g → br < g ∧ g < w1.heap.size from fun g hg => ⟨by have := a1.vo g hg; rw [hbr]; simp at this; omega, a1.own.lt hg⟩)
    have HBR := Lib.hid hbr
    rw [← hbr]
    clear a1 hbr
    go_wp2_with fail
    refine (qget_any A1.out hL8 (Nat.zero_le _) 2 (by decide) _ rfl).mono ?_
    rintro e w2 ⟨rfl, a2⟩
    rw [← HN1.out, ← HF1.out] at a2
    rw [← HK.out]
    have A2 := Lib.hid a2.here
    have R2 := Lib.hid (a2.kp.blk R1.out (fun e => by have e : br = q := e; have := G1.out; omega))
    have K2 := Lib.hid (K1.out.newer a2.kp (by have := G1.out; have := HBR.out; omega))
    have Z2 := Lib.hid (Nat.lt_of_lt_of_le L1.out a2.kp.size)
    have ZV := Lib.hid (show ∀ g, V.ownBlock = some g → br < g ∧ g < w2.heap.size from fun g hg => ⟨(VO.out g hg).1, Nat.lt_of_lt_of_le (VO.out g hg).2 a2.kp.size⟩)
    obtain ⟨bx, hbx⟩ : ∃ bx, bx = w2.heap.size := ⟨_, rfl⟩
    have HBX := Lib.hid hbx
    have hbrx : br < bx := by have := G1.out; have := Z2.out; omega
    clear a2
    go_wp2_with fail
    refine (qget_any (A2.out.kpNo ((Kp.refl No w2).alloc (.cells #[.int .u8 (k : Int), .int .i64 0, .int .i64 0] 32))).here hL8 hb1 8 (by decide) _ rfl).mono ?_
    rintro e w3 ⟨rfl, a3⟩
    rw [← HN2.out, ← HF2.out] at a3
    rw [← HC.out, ← hbx]
    have X3 := Lib.hid (show w3.heap[bx]? = some (.cells #[.int .u8 (k : Int), .int .i64 0, .int .i64 0] 32 (0, 0)) by rw [hbx]; exact a3.kp.blk (blk_new w2 _) (fun e => by have e : w2.heap.size = q := e; have := Z2.out; omega))
    have R3 := Lib.hid (a3.kp.blk (blk_alloc R2.out _) (fun e => by have e : br = q := e; have := G1.out; omega))
    have A3 := Lib.hid a3.here
    have K3 := Lib.hid ((K2.out.alloc _).newer a3.kp (by have := G1.out; have := HBR.out; omega))
    have y1 : w3.cell? ⟨bx, 1, none⟩ = some (.int .i64 0) := (blk_cell X3.out 1).trans rfl
    have y1f : w3.frozen? ⟨bx, 1, none⟩ = false := blk_free X3.out 1
    have NQ := Lib.hid (show ¬ (q = bx) by have := Z2.out; omega)
    have NV := Lib.hid (show ∀ g, V.ownBlock = some g → ¬ (g = bx) from fun g hg e => by have := (ZV.out g hg).2; omega)
    clear a3 hbx
    go_wp2_with fail
    refine (qget_any (A3.out.far (Kp.one (p := bx) 1 (.int .i64 (c : Int))) NQ.out NV.out) hL8 hb2 6 (by decide) _ rfl).mono ?_
    rintro e w4 ⟨rfl, a4⟩
    rw [← HN3.out, ← HF3.out] at a4
    rw [← HP.out]
    have X4 := Lib.hid (show w4.heap[bx]? = some (.cells #[.int .u8 (k : Int), .int .i64 (c : Int), .int .i64 0] 32 (0, 0)) from a4.kp.blk ((blk_set X3.out 1 _).trans rfl) (fun e => NQ.out e.symm))
    have R4 := Lib.hid (a4.kp.blk (blk_far R3.out (p := ⟨bx, 1, none⟩) (by show br ≠ bx; omega) (.int .i64 (c : Int))) (fun e => by have e : br = q := e; have := G1.out; omega))
    have K4 := Lib.hid ((K3.out.newer (Kp.one (p := bx) 1 (.int .i64 (c : Int))) (by have := HBR.out; omega)).newer a4.kp (by have := G1.out; have := HBR.out; omega))
    have y2 : w4.cell? ⟨bx, 2, none⟩ = some (.int .i64 0) := (blk_cell X4.out 2).trans rfl
    have y2f : w4.frozen? ⟨bx, 2, none⟩ = false := blk_free X4.out 2
    clear a4
    have X4s := blk_set X4.out 2 (.int .i64 (p : Int))
    have z0 : (w4.setCell ⟨bx, 2, none⟩ (.int .i64 (p : Int))).cell? ⟨bx, 0, none⟩ = some (.int .u8 (k : Int)) := (blk_cell X4s 0).trans rfl
    have z1 : (w4.setCell ⟨bx, 2, none⟩ (.int .i64 (p : Int))).cell? ⟨bx, 1, none⟩ = some (.int .i64 (c : Int)) := (blk_cell X4s 1).trans rfl
    have z2 : (w4.setCell ⟨bx, 2, none⟩ (.int .i64 (p : Int))).cell? ⟨bx, 2, none⟩ = some (.int .i64 (p : Int)) := (blk_cell X4s 2).trans rfl
    clear X4s
    go_wp2_with fail
    refine (layAct_any k (c : Int) (p : Int) (by omega) _).mono ?_
    rintro e w7 ⟨v7, rfl, k7⟩
    rw [← HE.out]
    rw [← HY.out] at k7
    obtain ⟨A7, c7, rfl⟩ := k7.own.rd.shape
    have X7 := Lib.hid (show w7.heap[bx]? = some (.cells #[.int .u8 (k : Int), .int .i64 (c : Int), .int .i64 (p : Int)] 32 (0, 0)) from k7.kp.blk ((blk_set X4.out 2 _).trans rfl) (no_no _))
    have R7 := Lib.hid (k7.kp.blk (blk_far R4.out (p := ⟨bx, 2, none⟩) (by show br ≠ bx; omega) (.int .i64 (p : Int))) (no_no _))
    have K7 := Lib.hid ((K4.out.newer (Kp.one (p := bx) 2 (.int .i64 (p : Int))) (by have := HBR.out; omega)).trans k7.kp)
    have s1 := k7.own.rd.str
    have s2 := (H.out.kpNo K7.out).str
    clear k7
    have u0 : w7.cell? ⟨br, 0, none⟩ = some (.int .u8 0) := (blk_cell R7.out 0).trans rfl
    have u1 : w7.cell? ⟨br, 1, none⟩ = some (.int .i64 0) := (blk_cell R7.out 1).trans rfl
    have u2 : w7.cell? ⟨br, 2, none⟩ = some (.int .i64 0) := (blk_cell R7.out 2).trans rfl
    have v0 : w7.frozen? ⟨br, 0, none⟩ = false := blk_free R7.out 0
    have v1 : w7.frozen? ⟨br, 1, none⟩ = false := blk_free R7.out 1
    have v2 : w7.frozen? ⟨br, 2, none⟩ = false := blk_free R7.out 2
    go_wp2
    have bE := blk_set (blk_set (blk_set R7.out 0 (.int .u8 0)) 1 (.int .i64 0)) 2 (.int .i64 0)
    have r0 := (blk_cell bE 0).trans rfl
    have r1 := (blk_cell bE 1).trans rfl
    have r2 := (blk_cell bE 2).trans rfl
    have kE := ((K7.out.newer (Kp.one (w := w7) (p := br) 0 (.int .u8 0)) (by have := HBR.out; omega)).newer (Kp.one (p := br) 1 (.int .i64 0)) (by have := HBR.out; omega)).newer (Kp.one (p := br) 2 (.int .i64 0)) (by have := HBR.out; omega)
    exact bodyPost_ret (v := .tuple #[.agg #[.int .u8 0, .int .i64 0, .int .i64 0], .int .i64 170]) (by simp [results, Try.results51, go_sem, r0, r1, r2]) rfl (ERR.out _ kE)
  · have sb := strB_beq HYX.out HX.out
    rw [decide_eq_false hne] at sb
    have sn : ((strB Y).toList != (strB B).toList) = true := by rw [bne, sb]; rfl
    have ERR : Hid (∀ w', Kp No w w' → TakeAR B w (.returned (.tuple #[.agg #[.int .u8 0, .int .i64 0, .int .i64 0], .int .i64 170])) w') := Lib.hid fun w' hk => by
      unfold TakeAR tkaK tkaC tkaP tkaE
      rw [hok]; exact ⟨rfl, hk⟩
    clear hok
    clear hne
    go_enter Try.func51, Try.ntmps51
    go_wp2_with fail
    refine (rof_any (H.out.kpNo ((Kp.refl No w).alloc _)) hB HX.out).mono ?_
    rintro e w1 ⟨q, rfl, V, a1⟩
    rw [← HL.out] at a1
    obtain ⟨br, hbr⟩ : ∃ br, br = w.heap.size := ⟨_, rfl⟩
    have R1 := Lib.hid (show w1.heap[br]? = some (.cells #[.int .u8 0, .int .i64 0, .int .i64 0] 32 (0, 0)) by rw [hbr]; exact a1.kp.blk (blk_new w _) (no_no _))
    have A1 := Lib.hid a1.at; have K1 := Lib.hid (show Kp No w w1 from ((Kp.refl No w).alloc _).trans a1.kp)
    have G1 := Lib.hid (show br < q by rw [hbr]; have := a1.po; simp at this; omega)
    have L1 := Lib.hid (show q < w1.heap.size from lt_of_block a1.blk)
    have VO := Lib.hid (show ∀ g, V.ownBlock = some g → br < g ∧ g < w1.heap.size from fun g hg => ⟨by have := a1.vo g hg; rw [hbr]; simp at this; omega, a1.own.lt hg⟩)
    have HBR := Lib.hid hbr
    rw [← hbr]
    clear a1 hbr
    go_wp2_with fail
    refine (qget_any A1.out hL8 (Nat.zero_le _) 2 (by decide) _ rfl).mono ?_
    rintro e w2 ⟨rfl, a2⟩
    rw [← HN1.out, ← HF1.out] at a2
    rw [← HK.out]
    have A2 := Lib.hid a2.here
    have R2 := Lib.hid (a2.kp.blk R1.out (fun e => by have e : br = q := e; have := G1.out; omega))
    have K2 := Lib.hid (K1.out.newer a2.kp (by have := G1.out; have := HBR.out; omega))
    have Z2 := Lib.hid (Nat.lt_of_lt_of_le L1.out a2.kp.size)
    have ZV := Lib.hid (show ∀ g, V.ownBlock = some g → br < g ∧ g < w2.heap.size from fun g hg => ⟨(VO.out g hg).1, Nat.lt_of_lt_of_le (VO.out g hg).2 a2.kp.size⟩)
    obtain ⟨bx, hbx⟩ : ∃ bx, bx = w2.heap.size := ⟨_, rfl⟩
    have HBX := Lib.hid hbx
    have hbrx : br < bx := by have := G1.out; have := Z2.out; omega
    clear a2
    go_wp2_with fail
    refine (qget_any (A2.out.kpNo ((Kp.refl No w2).alloc (.cells #[.int .u8 (k : Int), .int .i64 0, .int .i64 0] 32))).here hL8 hb1 8 (by decide) _ rfl).mono ?_
    rintro e w3 ⟨rfl, a3⟩
    rw [← HN2.out, ← HF2.out] at a3
    rw [← HC.out, ← hbx]
    have X3 := Lib.hid (show w3.heap[bx]? = some (.cells #[.int .u8 (k : Int), .int .i64 0, .int .i64 0] 32 (0, 0)) by rw [hbx]; exact a3.kp.blk (blk_new w2 _) (fun e => by have e : w2.heap.size = q := e; have := Z2.out; omega))
    have R3 := Lib.hid (a3.kp.blk (blk_alloc R2.out _) (fun e => by have e : br = q := e; have := G1.out; omega))
    have A3 := Lib.hid a3.here
    have K3 := Lib.hid ((K2.out.alloc _).newer a3.kp (by have := G1.out; have := HBR.out; omega))
    have y1 : w3.cell? ⟨bx, 1, none⟩ = some (.int .i64 0) := (blk_cell X3.out 1).trans rfl
    have y1f : w3.frozen? ⟨bx, 1, none⟩ = false := blk_free X3.out 1
    have NQ := Lib.hid (show ¬ (q = bx) by have := Z2.out; omega)
    have NV := Lib.hid (show ∀ g, V.ownBlock = some g → ¬ (g = bx) from fun g hg e => by have := (ZV.out g hg).2; omega)
    clear a3 hbx
    go_wp2_with fail
    refine (qget_any (A3.out.far (Kp.one (p := bx) 1 (.int .i64 (c : Int))) NQ.out NV.out) hL8 hb2 6 (by decide) _ rfl).mono ?_
    rintro e w4 ⟨rfl, a4⟩
    rw [← HN3.out, ← HF3.out] at a4
    rw [← HP.out]
    have X4 := Lib.hid (show w4.heap[bx]? = some (.cells #[.int .u8 (k : Int), .int .i64 (c : Int), .int .i64 0] 32 (0, 0)) from a4.kp.blk ((blk_set X3.out 1 _).trans rfl) (fun e => NQ.out e.symm))
    have R4 := Lib.hid (a4.kp.blk (blk_far R3.out (p := ⟨bx, 1, none⟩) (by show br ≠ bx; omega) (.int .i64 (c : Int))) (fun e => by have e : br = q := e; have := G1.out; omega))
    have K4 := Lib.hid ((K3.out.newer (Kp.one (p := bx) 1 (.int .i64 (c : Int))) (by have := HBR.out; omega)).newer a4.kp (by have := G1.out; have := HBR.out; omega))
    have y2 : w4.cell? ⟨bx, 2, none⟩ = some (.int .i64 0) := (blk_cell X4.out 2).trans rfl
    have y2f : w4.frozen? ⟨bx, 2, none⟩ = false := blk_free X4.out 2
    clear a4
    have X4s := blk_set X4.out 2 (.int .i64 (p : Int))
    have z0 : (w4.setCell ⟨bx, 2, none⟩ (.int .i64 (p : Int))).cell? ⟨bx, 0, none⟩ = some (.int .u8 (k : Int)) := (blk_cell X4s 0).trans rfl
    have z1 : (w4.setCell ⟨bx, 2, none⟩ (.int .i64 (p : Int))).cell? ⟨bx, 1, none⟩ = some (.int .i64 (c : Int)) := (blk_cell X4s 1).trans rfl
    have z2 : (w4.setCell ⟨bx, 2, none⟩ (.int .i64 (p : Int))).cell? ⟨bx, 2, none⟩ = some (.int .i64 (p : Int)) := (blk_cell X4s 2).trans rfl
    clear X4s
    go_wp2_with fail
    refine (layAct_any k (c : Int) (p : Int) (by omega) _).mono ?_
    rintro e w7 ⟨v7, rfl, k7⟩
    rw [← HE.out]
    rw [← HY.out] at k7
    obtain ⟨A7, c7, rfl⟩ := k7.own.rd.shape
    have X7 := Lib.hid (show w7.heap[bx]? = some (.cells #[.int .u8 (k : Int), .int .i64 (c : Int), .int .i64 (p : Int)] 32 (0, 0)) from k7.kp.blk ((blk_set X4.out 2 _).trans rfl) (no_no _))
    have R7 := Lib.hid (k7.kp.blk (blk_far R4.out (p := ⟨bx, 2, none⟩) (by show br ≠ bx; omega) (.int .i64 (p : Int))) (no_no _))
    have K7 := Lib.hid ((K4.out.newer (Kp.one (p := bx) 2 (.int .i64 (p : Int))) (by have := HBR.out; omega)).trans k7.kp)
    have s1 := k7.own.rd.str
    have s2 := (H.out.kpNo K7.out).str
    clear k7
    have u0 : w7.cell? ⟨br, 0, none⟩ = some (.int .u8 0) := (blk_cell R7.out 0).trans rfl
    have u1 : w7.cell? ⟨br, 1, none⟩ = some (.int .i64 0) := (blk_cell R7.out 1).trans rfl
    have u2 : w7.cell? ⟨br, 2, none⟩ = some (.int .i64 0) := (blk_cell R7.out 2).trans rfl
    have v0 : w7.frozen? ⟨br, 0, none⟩ = false := blk_free R7.out 0
    have v1 : w7.frozen? ⟨br, 1, none⟩ = false := blk_free R7.out 1
    have v2 : w7.frozen? ⟨br, 2, none⟩ = false := blk_free R7.out 2
    go_wp2
    have bE := blk_set (blk_set (blk_set R7.out 0 (.int .u8 0)) 1 (.int .i64 0)) 2 (.int .i64 0)
    have r0 := (blk_cell bE 0).trans rfl
    have r1 := (blk_cell bE 1).trans rfl
    have r2 := (blk_cell bE 2).trans rfl
    have kE := ((K7.out.newer (Kp.one (w := w7) (p := br) 0 (.int .u8 0)) (by have := HBR.out; omega)).newer (Kp.one (p := br) 1 (.int .i64 0)) (by have := HBR.out; omega)).newer (Kp.one (p := br) 2 (.int .i64 0)) (by have := HBR.out; omega)
    exact bodyPost_ret (v := .tuple #[.agg #[.int .u8 0, .int .i64 0, .int .i64 0], .int .i64 170]) (by simp [results, Try.results51, go_sem, r0, r1, r2]) rfl (ERR.out _ kE)
  · subst hYB
    have YES : Hid (∀ w', Kp No w w' → TakeAR Y w (.returned (.tuple #[.agg #[.int .u8 (k : Int), .int .i64 (c : Int), .int .i64 (p : Int)], .int .i64 0])) w') := Lib.hid fun w' hk => by
      unfold TakeAR tkaK tkaC tkaP tkaE
      rw [hok, ← t1, ← t2, ← t3]; exact ⟨rfl, hk⟩
    clear hok t1 t2 t3
    go_enter Try.func51, Try.ntmps51
    go_wp2_with fail
    refine (rof_any (H.out.kpNo ((Kp.refl No w).alloc _)) hB HX.out).mono ?_
    rintro e w1 ⟨q, rfl, V, a1⟩
    rw [← HL.out] at a1
    obtain ⟨br, hbr⟩ : ∃ br, br = w.heap.size := ⟨_, rfl⟩
    have R1 := Lib.hid (show w1.heap[br]? = some (.cells #[.int .u8 0, .int .i64 0, .int .i64 0] 32 (0, 0)) by rw [hbr]; exact a1.kp.blk (blk_new w _) (no_no _))
    have A1 := Lib.hid a1.at; have K1 := Lib.hid (show Kp No w w1 from ((Kp.refl No w).alloc _).trans a1.kp)
    have G1 := Lib.hid (show br < q by rw [hbr]; have := a1.po; simp at this; omega)
    have L1 := Lib.hid (show q < w1.heap.size from lt_of_block a1.blk)
    have VO := Lib.hid (show ∀ g, V.ownBlock = some g → br < g ∧ g < w1.heap.size from fun g hg => ⟨by have := a1.vo g hg; rw [hbr]; simp at this; omega, a1.own.lt hg⟩)
    have HBR := Lib.hid hbr
    rw [← hbr]
    clear a1 hbr
    go_wp2_with fail
    refine (qget_any A1.out hL8 (Nat.zero_le _) 2 (by decide) _ rfl).mono ?_
    rintro e w2 ⟨rfl, a2⟩
    rw [← HN1.out, ← HF1.out] at a2
    rw [← HK.out]
    have A2 := Lib.hid a2.here
    have R2 := Lib.hid (a2.kp.blk R1.out (fun e => by have e : br = q := e; have := G1.out; omega))
    have K2 := Lib.hid (K1.out.newer a2.kp (by have := G1.out; have := HBR.out; omega))
    have Z2 := Lib.hid (Nat.lt_of_lt_of_le L1.out a2.kp.size)
    have ZV := Lib.hid (show ∀ g, V.ownBlock = some g → br < g ∧ g < w2.heap.size from fun g hg => ⟨(VO.out g hg).1, Nat.lt_of_lt_of_le (VO.out g hg).2 a2.kp.size⟩)
    obtain ⟨bx, hbx⟩ : ∃ bx, bx = w2.heap.size := ⟨_, rfl⟩
    have HBX := Lib.hid hbx
    have hbrx : br < bx := by have := G1.out; have := Z2.out; omega
    clear a2
    go_wp2_with fail
    refine (qget_any (A2.out.kpNo ((Kp.refl No w2).alloc (.cells #[.int .u8 (k : Int), .int .i64 0, .int .i64 0] 32))).here hL8 hb1 8 (by decide) _ rfl).mono ?_
    rintro e w3 ⟨rfl, a3⟩
    rw [← HN2.out, ← HF2.out] at a3
    rw [← HC.out, ← hbx]
    have X3 := Lib.hid (show w3.heap[bx]? = some (.cells #[.int .u8 (k : Int), .int .i64 0, .int .i64 0] 32 (0, 0)) by rw [hbx]; exact a3.kp.blk (blk_new w2 _) (fun e => by have e : w2.heap.size = q := e; have := Z2.out; omega))
    have R3 := Lib.hid (a3.kp.blk (blk_alloc R2.out _) (fun e => by have e : br = q := e; have := G1.out; omega))
    have A3 := Lib.hid a3.here
    have K3 := Lib.hid ((K2.out.alloc _).newer a3.kp (by have := G1.out; have := HBR.out; omega))
    have y1 : w3.cell? ⟨bx, 1, none⟩ = some (.int .i64 0) := (blk_cell X3.out 1).trans rfl
    have y1f : w3.frozen? ⟨bx, 1, none⟩ = false := blk_free X3.out 1
    have NQ := Lib.hid (show ¬ (q = bx) by have := Z2.out; omega)
    have NV := Lib.hid (show ∀ g, V.ownBlock = some g → ¬ (g = bx) from fun g hg e => by have := (ZV.out g hg).2; omega)
    clear a3 hbx
    go_wp2_with fail
    refine (qget_any (A3.out.far (Kp.one (p := bx) 1 (.int .i64 (c : Int))) NQ.out NV.out) hL8 hb2 6 (by decide) _ rfl).mono ?_
    rintro e w4 ⟨rfl, a4⟩
    rw [← HN3.out, ← HF3.out] at a4
    rw [← HP.out]
    have X4 := Lib.hid (show w4.heap[bx]? = some (.cells #[.int .u8 (k : Int), .int .i64 (c : Int), .int .i64 0] 32 (0, 0)) from a4.kp.blk ((blk_set X3.out 1 _).trans rfl) (fun e => NQ.out e.symm))
    have R4 := Lib.hid (a4.kp.blk (blk_far R3.out (p := ⟨bx, 1, none⟩) (by show br ≠ bx; omega) (.int .i64 (c : Int))) (fun e => by have e : br = q := e; have := G1.out; omega))
    have K4 := Lib.hid ((K3.out.newer (Kp.one (p := bx) 1 (.int .i64 (c : Int))) (by have := HBR.out; omega)).newer a4.kp (by have := G1.out; have := HBR.out; omega))
    have y2 : w4.cell? ⟨bx, 2, none⟩ = some (.int .i64 0) := (blk_cell X4.out 2).trans rfl
    have y2f : w4.frozen? ⟨bx, 2, none⟩ = false := blk_free X4.out 2
    clear a4
    have X4s := blk_set X4.out 2 (.int .i64 (p : Int))
    have z0 : (w4.setCell ⟨bx, 2, none⟩ (.int .i64 (p : Int))).cell? ⟨bx, 0, none⟩ = some (.int .u8 (k : Int)) := (blk_cell X4s 0).trans rfl
    have z1 : (w4.setCell ⟨bx, 2, none⟩ (.int .i64 (p : Int))).cell? ⟨bx, 1, none⟩ = some (.int .i64 (c : Int)) := (blk_cell X4s 1).trans rfl
    have z2 : (w4.setCell ⟨bx, 2, none⟩ (.int .i64 (p : Int))).cell? ⟨bx, 2, none⟩ = some (.int .i64 (p : Int)) := (blk_cell X4s 2).trans rfl
    clear X4s
    go_wp2_with fail
    refine (layAct_any k (c : Int) (p : Int) (by omega) _).mono ?_
    rintro e w7 ⟨v7, rfl, k7⟩
    rw [← HE.out]
    rw [← HY.out] at k7
    obtain ⟨A7, c7, rfl⟩ := k7.own.rd.shape
    have X7 := Lib.hid (show w7.heap[bx]? = some (.cells #[.int .u8 (k : Int), .int .i64 (c : Int), .int .i64 (p : Int)] 32 (0, 0)) from k7.kp.blk ((blk_set X4.out 2 _).trans rfl) (no_no _))
    have R7 := Lib.hid (k7.kp.blk (blk_far R4.out (p := ⟨bx, 2, none⟩) (by show br ≠ bx; omega) (.int .i64 (p : Int))) (no_no _))
    have K7 := Lib.hid ((K4.out.newer (Kp.one (p := bx) 2 (.int .i64 (p : Int))) (by have := HBR.out; omega)).trans k7.kp)
    have s1 := k7.own.rd.str
    have s2 := (H.out.kpNo K7.out).str
    clear k7
    have x3 : w7.cell? ⟨bx, 0, none⟩ = some (.int .u8 (k : Int)) := (blk_cell X7.out 0).trans rfl
    have x4 : w7.cell? ⟨bx, 1, none⟩ = some (.int .i64 (c : Int)) := (blk_cell X7.out 1).trans rfl
    have x5 : w7.cell? ⟨bx, 2, none⟩ = some (.int .i64 (p : Int)) := (blk_cell X7.out 2).trans rfl
    have u0 : w7.cell? ⟨br, 0, none⟩ = some (.int .u8 0) := (blk_cell R7.out 0).trans rfl
    have u1 : w7.cell? ⟨br, 1, none⟩ = some (.int .i64 0) := (blk_cell R7.out 1).trans rfl
    have u2 : w7.cell? ⟨br, 2, none⟩ = some (.int .i64 0) := (blk_cell R7.out 2).trans rfl
    have v0 : w7.frozen? ⟨br, 0, none⟩ = false := blk_free R7.out 0
    have v1 : w7.frozen? ⟨br, 1, none⟩ = false := blk_free R7.out 1
    have v2 : w7.frozen? ⟨br, 2, none⟩ = false := blk_free R7.out 2
    go_wp2
    have bE := blk_set (blk_set (blk_set R7.out 0 (.int .u8 (k : Int))) 1 (.int .i64 (c : Int))) 2 (.int .i64 (p : Int))
    have r0 := (blk_cell bE 0).trans rfl
    have r1 := (blk_cell bE 1).trans rfl
    have r2 := (blk_cell bE 2).trans rfl
    have kE := ((K7.out.newer (Kp.one (w := w7) (p := br) 0 (.int .u8 (k : Int))) (by have := HBR.out; omega)).newer (Kp.one (p := br) 1 (.int .i64 (c : Int))) (by have := HBR.out; omega)).newer (Kp.one (p := br) 2 (.int .i64 (p : Int))) (by have := HBR.out; omega)
    exact bodyPost_ret (v := .tuple #[.agg #[.int .u8 (k : Int), .int .i64 (c : Int), .int .i64 (p : Int)], .int .i64 0]) (by simp [results, Try.results51, go_sem, r0, r1, r2]) rfl (YES.out _ kE)
end Go.Proofs.Ytbafdfkmakehnaa

namespace Go.Proofs.Ytbafdfkmakehnaa
set_option linter.unusedVariables false
set_option linter.unusedSimpArgs false
open Go.RowKit

/-- Only robots, receivers and senders were written. -/
def KeepB (w w' : World) : Prop := ∃ S, Kp S w w' ∧ Ty w S [76, 95, 93]
theorem KeepB.own {w w' : World} (h : KeepB w w') {α : Type} {K : Kd α} {e : TypeId} {v : Value} {l : List α} (o : Own K e w v l) (he : e ∉ [76, 95, 93]) : Own K e w' v l :=
  let ⟨_, hk, ht⟩ := h
  o.kp hk (ht.notO o he)
theorem KeepB.no {w w' : World} (hk : Kp No w w') : KeepB w w' := ⟨No, hk, fun _ h => h.elim⟩

/-- A robot that was made since w0. -/
structure RobA (w0 : World) (p ph ps : Nat) (R : Rob) (w : World) : Prop where
  ex : ∃ pa V, RobS p ph ps pa V R w
  kp : Kp No w0 w
  p0 : w0.heap.size ≤ p
  h0 : w0.heap.size ≤ ph
  s0 : w0.heap.size ≤ ps
section
variable {w0 w w' : World} {p ph ps : Nat} {R R' : Rob}
theorem RobA.no (h : RobA w0 p ph ps R w) (hk : Kp No w w') : RobA w0 p ph ps R w' := let ⟨pa, V, h1⟩ := h.ex; ⟨⟨pa, V, h1.no hk⟩, h.kp.no hk, h.p0, h.h0, h.s0⟩
theorem RobA.low {w1 : World} (h : RobA w1 p ph ps R w) (hk : Kp No w0 w1) : RobA w0 p ph ps R w := ⟨h.ex, hk.trans h.kp, Nat.le_trans hk.size h.p0, Nat.le_trans hk.size h.h0, Nat.le_trans hk.size h.s0⟩
theorem RobA.far {S : Nat → Prop} {ts : List TypeId} (h : RobA w0 p ph ps R w) (hk : Kp S w w') (hs : Ty w S ts) (ht : 76 ∉ ts ∧ 32 ∉ ts ∧ 95 ∉ ts ∧ 93 ∉ ts ∧ 5 ∉ ts) (hn : ∀ k, S k → w0.heap.size ≤ k) : RobA w0 p ph ps R w' :=
  let ⟨pa, V, h1⟩ := h.ex
  ⟨⟨pa, V, h1.far hk hs ht⟩, h.kp.trans' hk fun k hk e => by have := hn k e; omega, h.p0, h.h0, h.s0⟩
theorem RobTo.a {pa : Option Nat} {V : Value} (h : RobA w0 p ph ps R w) (ht : RobTo p ph ps pa V R' w w') : RobA w0 p ph ps R' w' :=
  let ⟨pa', V', h1, _, _⟩ := ht.tw
  ⟨⟨pa', V', h1⟩, h.kp.trans' ht.kp fun k hk e => by have := h.p0; have := h.h0; have := h.s0; omega, h.p0, h.h0, h.s0⟩

def NewA (dock charge : Int) (w : World) (e : Ending) (w' : World) : Prop :=
  (newRobE dock charge = true ∧ e = .returned (.tuple #[.pointer none, .int .i64 1]) ∧ w = w') ∨
    (newRobE dock charge = false ∧ ∃ p ph ps, e = .returned (.tuple #[.pointer (some ⟨p, 0, none⟩), .int .i64 0]) ∧ RobA w p ph ps (newRob dock charge) w')
theorem newA (dock charge : Int) (w : World) : Calls Try.prog 9 #[.int .i64 dock, .int .i64 charge] w (NewA dock charge w) :=
  (newRob_any dock charge w).mono fun _ _ h => h.imp id fun ⟨a, p, ph, ps, b, c, d, e, f, g⟩ => ⟨a, p, ph, ps, b, ⟨⟨_, _, c⟩, d, e, f, g⟩⟩
theorem chargeA (h : RobA w0 p ph ps R w) : Calls Try.prog 13 #[.pointer (some ⟨p, 0, none⟩)] w fun e w' => e = .returned (.int .i64 R.charge) ∧ w = w' := let ⟨_, _, h1⟩ := h.ex; charge_any h1
theorem doneA (h : RobA w0 p ph ps R w) : Calls Try.prog 14 #[.pointer (some ⟨p, 0, none⟩)] w fun e w' => e = .returned (.int .u64 (R.done : Int)) ∧ w = w' := let ⟨_, _, h1⟩ := h.ex; done_any h1
theorem cellsA (h : RobA w0 p ph ps R w) : Calls Try.prog 15 #[.pointer (some ⟨p, 0, none⟩)] w (CellsR (cellsL R) w) := let ⟨_, _, h1⟩ := h.ex; cells_any h1
theorem nextA (h : RobA w0 p ph ps R w) : Calls Try.prog 26 #[.pointer (some ⟨p, 0, none⟩)] w (NextR R w) := let ⟨_, _, h1⟩ := h.ex; next_any h1
theorem packetA (h : RobA w0 p ph ps R w) : Calls Try.prog 16 #[.pointer (some ⟨p, 0, none⟩)] w (PacketR R.told R.on [] w) := let ⟨_, _, h1⟩ := h.ex; rpkt_any h1
def StepA (w0 : World) (p ph ps : Nat) (R : Rob) (w : World) (e : Ending) (w' : World) : Prop := e = .returned (.bool (stepB R)) ∧ RobA w0 p ph ps (stepS R) w' ∧ KeepB w w'
theorem stepA (h : RobA w0 p ph ps R w) (ok : R.ok) : Calls Try.prog 12 #[.pointer (some ⟨p, 0, none⟩)] w (StepA w0 p ph ps R w) :=
  let ⟨_, _, h1⟩ := h.ex
  (step_any h1 ok).mono fun _ _ ⟨a, b⟩ => ⟨a, b.a h, ⟨_, b.kp, h1.ty3⟩⟩
def HeardA (w0 : World) (p ph ps : Nat) (R : Rob) (f : List Nat) (w : World) (e : Ending) (w' : World) : Prop := e = .returned (.bool (heardB R.told R.on f)) ∧ RobA w0 p ph ps (heardS R f) w' ∧ KeepB w w'
theorem heardA (h : RobA w0 p ph ps R w) {v : Value} {f : List Nat} (hv : Rd BK w v f) (hl : f.length ≤ 1000000) (hx : ∀ x ∈ f, x < 256) : Calls Try.prog 19 #[.pointer (some ⟨p, 0, none⟩), v] w (HeardA w0 p ph ps R f w) :=
  let ⟨_, _, h1⟩ := h.ex
  (rheard_any h1 hv hl hx).mono fun _ _ ⟨a, b⟩ => ⟨a, b.a h, ⟨_, b.kp, h1.ty3⟩⟩
def HearA (w0 : World) (p ph ps : Nat) (R : Rob) (F : List Nat) (w : World) (e : Ending) (w' : World) : Prop := ∃ v', e = .returned v' ∧ Own BK 5 w' v' (hearB R F) ∧ (∀ g, v'.ownBlock = some g → w.heap.size ≤ g) ∧ RobA w0 p ph ps (hearS R F) w' ∧ KeepB w w'
theorem tkD_len (F : List Nat) : (tkD F).length ≤ 1000000 := by
  unfold tkD
  split
  · rename_i h
    unfold takeOk tOk at h
    simp only [Bool.and_eq_true, decide_eq_true_eq] at h
    unfold tD
    rw [dataP_len]
    omega
  · simp
theorem tkD_byte (f : List Nat) : ∀ x ∈ tkD f, x < 256 := by
  unfold tkD
  split
  · unfold tD; exact dataP_lt _ _ _
  · intro x hx; simp at hx
theorem hearA (h : RobA w0 p ph ps R w) (ok : R.ok) {v : Value} {F : List Nat} (hv : Rd BK w v F) (hl : F.length ≤ 1000000) (hx : ∀ x ∈ F, x < 256) : Calls Try.prog 10 #[.pointer (some ⟨p, 0, none⟩), v] w (HearA w0 p ph ps R F w) :=
  let ⟨_, _, h1⟩ := h.ex
  (robHear_any h1 ok hv hl hx (tkD_len F) (tkD_byte F)).mono fun _ _ ⟨v', a, b, c, d⟩ => ⟨v', a, b, c, d.a h, ⟨_, d.kp, h1.ty3⟩⟩
end

/-- The packet by which a robot is told an act. -/
def pktA (n k : Nat) (c p : Int) : List Nat := layL false n (layA k c p)
def Pkt18R (n k : Nat) (c p : Int) (w : World) (e : Ending) (w' : World) : Prop := ∃ v', e = .returned v' ∧ NewS BK 5 w w' v' (pktA n k c p)
set_option maxRecDepth 100000 in
theorem packet18_any (n k : Nat) (c p : Int) (hn : n < 18446744073709551616) (hk : k < 256) (w : World) (x : Int) (hx : x = n) : Calls Try.prog 11 #[.int .u64 x, .agg #[.int .u8 (k : Int), .int .i64 c, .int .i64 p]] w (Pkt18R n k c p w) := by
  subst hx
  obtain ⟨D, hD⟩ : ∃ D, D = layA k c p := ⟨_, rfl⟩
  have HD := Lib.hid hD
  have HDX := Lib.hid (show ∀ x ∈ D, x < 256 by rw [hD]; exact layA_lt _ _ _)
  have hdl : D.length ≤ 1000000 := by rw [hD]; exact Nat.le_trans (layA_le _ _ _) (by decide)
  have HN := Lib.hid hn
  clear hD hn
  go_enter Try.func11, Try.ntmps11
  go_wp2_with fail
  refine (layAct_any k c p hk _).mono ?_
  rintro e w1 ⟨v1, rfl, k1⟩
  rw [← HD.out] at k1
  obtain ⟨A1, c1, rfl⟩ := k1.own.rd.shape
  have K1 := Lib.hid k1
  clear k1
  go_wp2_with fail
  refine (rlay_any K1.out.own.rd false n HN.out HDX.out).mono ?_
  rintro e w2 ⟨v2, rfl, k2⟩
  obtain ⟨A2, c2, rfl⟩ := k2.own.rd.shape
  have K2 := Lib.hid k2
  clear k2
  go_wp2
  go_ret
  refine ⟨_, rfl, ?_⟩
  unfold pktA
  rw [← HD.out]
  have kk := ((Kp.refl No w).alloc (.cells #[.int .u8 (k : Int), .int .i64 c, .int .i64 p] 32)).trans K1.out.kp
  exact ⟨K2.out.own, fun g hg => Nat.le_trans kk.size (K2.out.ge g hg), kk.trans K2.out.kp⟩
end Go.Proofs.Ytbafdfkmakehnaa

namespace Go.Proofs.Ytbafdfkmakehnaa
set_option linter.unusedVariables false
set_option linter.unusedSimpArgs false
open Go.RowKit

theorem pktA_lt (n k : Nat) (c p : Int) : ∀ x ∈ pktA n k c p, x < 256 := layL_lt _ _ _
theorem pktA_len (n k : Nat) (c p : Int) (hn : n < 18446744073709551616) : (pktA n k c p).length ≤ 1000000 := Nat.le_trans (layL_len _ _ _ hn) (by decide)
/-- A packet with the next number comes to a robot that has nothing to do. -/
theorem hear_next {R : Rob} {n k : Nat} {c p : Int} (hn : n < 18446744073709551615) (hm : mayA k c p = true) (hh : R.heard + 1 = n) (ha : R.act = none) :
    hearS R (pktA n k c p) = { R with heard := n, act := some (k, c, p), told := if R.on then R.told + 1 else R.told, on := false } ∧ hearB R (pktA n k c p) = layL true n [] := by
  have hx := layA_lt k c p
  obtain ⟨q1, q2, q3, q4⟩ := ack_laid R.heard n (layA k c p) hn (Nat.le_trans (layA_le _ _ _) (by decide)) hx
  have hnx : nxt R.heard = n := by unfold nxt; omega
  obtain ⟨t1, t2, t3, t4⟩ := take_layA hm
  have hf : freshB R.heard (pktA n k c p) = true := by unfold pktA; rw [q2, hnx]; simp; omega
  have hk : ackB R.heard (pktA n k c p) = true := by unfold pktA; rw [q1, hnx]; simp; omega
  have hd : tkD (pktA n k c p) = layA k c p := q4
  have hN : tkN (pktA n k c p) = n := q3
  have ht : takesB R (pktA n k c p) = true := by unfold takesB; rw [hf, ha, hd, t1]; rfl
  constructor
  · unfold hearS
    rw [hf, ht, hd, t2, t3, t4, hnx]
    simp
  · unfold hearB
    rw [hk, hN, if_pos rfl]

theorem rob_ok_of {R : Rob} (h1 : ∀ k c p, R.act = some (k, c, p) → mayA k c p = true) (h2 : R.to_ = -1 ∨ ((∃ p, R.act = some (1, R.to_, p)) ∧ 0 ≤ R.to_)) (h3 : 0 ≤ R.charge) (h4 : R.charge ≤ 9223372036854775807) (h5 : 0 ≤ R.full ∧ R.full ≤ 9223372036854775807)
    (h6 : R.done < 10000) (h7 : R.heard < 10000) (h8 : R.told < 10000) : R.ok := ⟨h1, h2, h3, h4, h5, by omega, by omega, by omega, fun _ => by omega⟩

def S1 : Rob := { newRob 0 9 with heard := 1, act := some (1, 1, 0) }
def S2 : Rob := { newRob 0 9 with heard := 1, act := some (1, 1, 0), charge := 8, to_ := 1 }
def S3 : Rob := { newRob 0 9 with heard := 1, act := none, charge := 8, to_ := -1, cell := 1, done := 1, on := true }
theorem s1_eq : hearS (newRob 0 9) (pktA 1 1 1 0) = S1 := (hear_next (by decide) (by decide) rfl rfl).1
theorem s1_b : hearB (newRob 0 9) (pktA 1 1 1 0) = layL true 1 [] := (hear_next (by decide) (by decide) rfl rfl).2
theorem s2_eq : stepS S1 = S2 ∧ stepB S1 = false := ⟨rfl, rfl⟩
theorem s3_eq : stepS S2 = S3 ∧ stepB S2 = true := ⟨rfl, rfl⟩
theorem s_ok : (newRob 0 9).ok ∧ S1.ok ∧ S2.ok := by
  refine ⟨newRob_ok (by decide) (by decide), ?_, ?_⟩
  · exact rob_ok_of (fun k c p e => by have e : some (1, (1 : Int), (0 : Int)) = some (k, c, p) := e; simp at e; obtain ⟨rfl, rfl, rfl⟩ := e; decide) (.inl rfl) (by decide) (by decide) (by decide) (by decide) (by decide) (by decide)
  · exact rob_ok_of (fun k c p e => by have e : some (1, (1 : Int), (0 : Int)) = some (k, c, p) := e; simp at e; obtain ⟨rfl, rfl, rfl⟩ := e; decide) (.inr ⟨⟨0, rfl⟩, by decide⟩) (by decide) (by decide) (by decide) (by decide) (by decide) (by decide)

theorem ints_lit (w : World) (cs : Array Value) (l : List Int) (hc : cs.toList = IK.encs l) (hm : l.length ≤ 1000) (n : Nat) (hn : n = l.length) : Rd IK (w.alloc (.cells cs 3)) (.slice (some ⟨w.heap.size, 0, none⟩) n n) l :=
  Rd.litAt IK 3 w cs l hc (by unfold maxLen; omega) _ n rfl hn

set_option maxRecDepth 100000 in
theorem shown18 (w : World) : Calls Try.prog 8 #[] w fun e w' => e = .returned (.bool true) ∧ Kp No w w' := by
  have HP := Lib.hid (layT_pos 1 (by decide))
  go_enter Try.func8, Try.ntmps8
  go_wp2_with fail
  refine (newA 0 9 w).mono ?_
  rintro e w1 (⟨h, _⟩ | ⟨_, p, ph, ps, rfl, a1⟩)
  · exact absurd h (by decide)
  have A1 := Lib.hid a1
  clear a1
  go_wp2_with fail
  refine (packet18_any 1 1 1 0 (by decide) (by decide) w1 _ rfl).mono ?_
  rintro e w2 ⟨v2, rfl, k2⟩
  have A2 := Lib.hid (A1.out.no k2.kp); have K2 := Lib.hid k2
  clear k2
  go_wp2_with fail
  refine (hearA A2.out s_ok.1 K2.out.own.rd (pktA_len _ _ _ _ (by decide)) (pktA_lt _ _ _ _)).mono ?_
  rintro e w3 ⟨v3, rfl, o3, _, a3, _⟩
  rw [s1_eq] at a3
  rw [s1_b] at o3
  obtain ⟨L, hL⟩ : ∃ L, L = layL true 1 [] := ⟨_, rfl⟩
  rw [← hL] at o3
  have hLp : 0 < L.length := by rw [hL]; exact HP.out
  have hL0 : ((L.length : Int) == 0) = false := by rw [beq_eq_false_iff_ne]; omega
  have hL1 : (L.length == 0) = false := by rw [beq_eq_false_iff_ne]; omega
  have hL2 : L ≠ [] := by intro e; rw [e] at hLp; simp at hLp
  obtain ⟨A3', c3, rfl⟩ := o3.rd.shape
  have A3 := Lib.hid a3
  clear a3 o3 hL hLp
  go_wp2_with fail
  refine (stepA A3.out s_ok.2.1).mono ?_
  rintro e w4 ⟨rfl, a4, _⟩
  rw [s2_eq.1] at a4
  rw [s2_eq.2]
  have A4 := Lib.hid a4
  clear a4
  go_wp2_with fail
  refine (cellsA A4.out).mono ?_
  rintro e w5 ⟨v5, rfl, k5⟩
  replace k5 : NewS IK 3 w4 w5 v5 [0, 1] := k5
  obtain ⟨A5', c5, rfl⟩ := k5.own.rd.shape
  have A5 := Lib.hid (A4.out.no k5.kp); have K5 := Lib.hid k5
  clear k5
  go_wp2_with fail
  refine (stepA A5.out s_ok.2.2).mono ?_
  rintro e w6 ⟨rfl, a6, q6⟩
  have I6 := Lib.hid (q6.own K5.out.own (by decide))
  clear q6
  rw [s3_eq.1] at a6
  rw [s3_eq.2]
  have A6 := Lib.hid a6
  clear a6
  go_wp2_with fail
  refine (cellsA A6.out).mono ?_
  rintro e w7 ⟨v7, rfl, k7⟩
  replace k7 : NewS IK 3 w6 w7 v7 [1] := k7
  obtain ⟨A7', c7, rfl⟩ := k7.own.rd.shape
  have A7 := Lib.hid (A6.out.no k7.kp); have K7 := Lib.hid k7
  clear k7
  go_wp2_with fail
  refine (packetA A7.out).mono ?_
  rintro e w8 ⟨v8, rfl, k8⟩
  obtain ⟨A8', c8, rfl⟩ := k8.own.rd.shape
  have A8 := Lib.hid (A7.out.no k8.kp); have K8 := Lib.hid k8
  clear k8
  have I8 := Lib.hid ((I6.out.kpNo K7.out.kp).kpNo K8.out.kp)
  have J8 := Lib.hid (K7.out.own.kpNo K8.out.kp)
  have hon : S3.on = true := rfl
  rw [hon]
  clear hon
  go_wp2_with fail
  refine (sameInts_any (a := [0, 1]) (b := [0, 1]) (I8.out.alloc _).rd (ints_lit w8 _ [0, 1] rfl (by decide) 2 rfl) true (by decide)).mono ?_
  rintro e w9 ⟨rfl, k9⟩
  have A9 := Lib.hid ((A8.out.no ((Kp.refl No w8).alloc _)).no k9)
  have J9 := Lib.hid ((J8.out.alloc (.cells #[.int .i64 0, .int .i64 1] 3)).kpNo k9)
  clear k9
  go_wp2_with fail
  refine (sameInts_any (a := [1]) (b := [1]) (J9.out.alloc _).rd (ints_lit w9 _ [1] rfl (by decide) 1 rfl) true (by decide)).mono ?_
  rintro e w10 ⟨rfl, k10⟩
  have A10 := Lib.hid ((A9.out.no ((Kp.refl No w9).alloc _)).no k10)
  clear k10
  go_wp2_with fail
  refine (doneA A10.out).mono ?_
  rintro e w11 ⟨rfl, rfl⟩
  have hd : S3.done = 1 := rfl
  rw [hd]
  clear hd
  go_wp2_with fail
  refine (chargeA A10.out).mono ?_
  rintro e w11 ⟨rfl, rfl⟩
  have hc : S3.charge = 8 := rfl
  rw [hc]
  clear hc
  go_wp2
  go_ret
  exact ⟨rfl, A10.out.kp⟩
end Go.Proofs.Ytbafdfkmakehnaa

namespace Go.Proofs.Ytbafdfkmakehnaa
set_option linter.unusedVariables false
set_option linter.unusedSimpArgs false
open Go.RowKit

/-- v, that came in, reads as l. -/
def RdA {α : Type} (K : Kd α) (w : World) (v : Value) (l : List α) : Prop :=
  ∃ A cap, v = .slice A l.length cap ∧ ∀ i x, l[i]? = some x → ∃ g o, A = some ⟨g, o, none⟩ ∧ ∀ j u, (K.enc x)[j]? = some u → w.cell? ⟨g, o + i * K.sz + j, none⟩ = some u

theorem Rd.a {α : Type} {K : Kd α} {w : World} {v : Value} {l : List α} (h : Rd K w v l) : RdA K w v l := by
  have h' := h
  rcases h with ⟨⟨A, c, rfl⟩, rfl⟩ | ⟨g, o, cap, rfl, _⟩
  · exact ⟨A, c, rfl, by simp⟩
  · exact ⟨_, cap, rfl, fun i x hx => ⟨g, o, rfl, fun j u hu => h'.at rfl hx hu⟩⟩
theorem RdA.kpNo {α : Type} {K : Kd α} {w w' : World} {v : Value} {l : List α} (h : RdA K w v l) (hk : Kp No w w') : RdA K w' v l :=
  let ⟨A, cap, hv, hc⟩ := h
  ⟨A, cap, hv, fun i x hx => let ⟨g, o, hA, hu⟩ := hc i x hx; ⟨g, o, hA, fun j u hj => hk.cellS (hu j u hj) (no_no _)⟩⟩
theorem RdA.shape {α : Type} {K : Kd α} {w : World} {v : Value} {l : List α} (h : RdA K w v l) : ∃ A cap, v = .slice A l.length cap := let ⟨A, cap, hv, _⟩ := h; ⟨A, cap, hv⟩
theorem RdA.take {α : Type} {K : Kd α} {w : World} {A : Option Addr} {n cap : Nat} {l : List α} (h : RdA K w (.slice A n cap) l) (m : Nat) : RdA K w (.slice A (min m n) cap) (l.take m) := by
  obtain ⟨A', cap', hv, hc⟩ := h
  simp only [Value.slice.injEq] at hv
  obtain ⟨rfl, rfl, rfl⟩ := hv
  refine ⟨A, cap, by simp, fun i x hx => ?_⟩
  rw [List.getElem?_take] at hx
  split at hx
  · exact hc i x hx
  · cases hx
theorem RdA.at {α : Type} {K : Kd α} {w : World} {A : Option Addr} {n cap : Nat} {l : List α} (h : RdA K w (.slice A n cap) l) {i : Nat} {x : α} (hx : l[i]? = some x) :
    ∃ g o, A = some ⟨g, o, none⟩ ∧ ∀ j u, (K.enc x)[j]? = some u → w.cell? ⟨g, o + i * K.sz + j, none⟩ = some u := by
  obtain ⟨A', cap', hv, hc⟩ := h
  simp only [Value.slice.injEq] at hv
  obtain ⟨rfl, rfl, rfl⟩ := hv
  exact hc i x hx

/-- 's[:hi]' of whatever came in. -/
theorem run_slice_hiA {α : Type} {K : Kd α} {P : Program} {t e : TypeId} {bytes : Nat} (E : ElT P t e K bytes) (A : Option Addr) (n cap hi : Nat) (h : hi ≤ cap) (x : Int) (hx : x = hi) (w : World) :
    (Instr.slice t (.slice A n cap) none (some (.int .i64 x)) none).run P w = .ok (.slice A hi cap) w := by
  subst hx
  obtain ⟨ht, i, z, hi', hz, hsize, hby, hzs⟩ := E
  have hA : (if cap = 0 then A else A.map (·.add (0 * i.size))) = A := by
    split
    · rfl
    · cases A <;> simp [Addr.add]
  simp only [Nat.zero_mul] at hA
  simp [Instr.slice, Instr.sliceBounds, Instr.sliceBound, run_underlying ht, sizeOf, typeInfo, hi', asIntOf, h, hA]

theorem list_of {α : Type} (Q : Nat → α → Prop) : ∀ n, (∀ i, i < n → ∃ x, Q i x) → ∃ l : List α, l.length = n ∧ ∀ i x, l[i]? = some x → Q i x
  | 0, _ => ⟨[], rfl, by simp⟩
  | n + 1, h => by
    obtain ⟨l, hl, hq⟩ := list_of Q n fun i hi => h i (by omega)
    obtain ⟨x, hx⟩ := h n (by omega)
    refine ⟨l ++ [x], by simp [hl], fun i y hy => ?_⟩
    rw [List.getElem?_append] at hy
    split at hy
    · exact hq i y hy
    · rename_i hi
      have : i = l.length := by
        have := (List.getElem?_eq_some_iff.1 hy).1
        simp at this; omega
      subst this
      simp at hy
      subst hy
      rw [hl]; exact hx

theorem open_rows {α : Type} {K : Kd α} {H : Type} {enc : TypeId × Value → H} {P : Program} {w : World} {base : Nat} {spare : Nat → Bool} {held : Bool} {t e : TypeId} {fuel : Nat} {v : Value} {x : DataW H × List MemPlace} (Good : α → Prop)
    (ht : P.underlying t = some (.slice e)) (hC : P.cellsOf e = K.sz) (dec : ∀ n cs' y, DataW.trod enc P w base spare held n e cs' = some y → ∃ x : α, cs' = K.enc x ∧ Good x)
    (h : DataW.trod enc P w base spare held fuel t [v] = some x) : ∃ l : List α, RdA K w v l ∧ (∀ x ∈ l, Good x) ∧ ∃ A cap, v = .slice A l.length cap ∧ l.length ≤ cap ∧ cap ≤ maxLen := by
  rcases Go.Deep.open_slice ht h with ⟨h0, _⟩ | ⟨a, len, cap, m, n, D, Pl, hcs, hb, hl, hm, hmm, hx, hi⟩
  · simp at h0
    exact ⟨[], ⟨none, 0, h0, by simp⟩, by simp, none, 0, h0, by simp, by simp⟩
  · simp at hcs
    have hml : len ≤ m := by rw [hmm]; split <;> omega
    have hsp : 0 < len → a = ⟨a.block, a.off, none⟩ := by
      intro h0
      obtain ⟨cs', hc, ht'⟩ := hi 0 (by omega)
      obtain ⟨y, rfl, _⟩ := dec n cs' _ ht'
      obtain ⟨_, hcl, hat⟩ := World.cells?_some hc
      have h1 := hat 0 (by rw [hC]; exact K.pos)
      rw [List.getElem?_eq_getElem (by rw [K.len y]; exact K.pos), Nat.zero_mul] at h1
      have := World.cell?_spot h1
      simp only [Addr.add, if_true] at this
      obtain ⟨b, o, sp⟩ := a
      simp only at this
      rw [this]
    obtain ⟨l, hll, hq⟩ := list_of (fun i (x : α) => Good x ∧ ∃ g o, some a = some (⟨g, o, none⟩ : Addr) ∧ ∀ j u, (K.enc x)[j]? = some u → w.cell? ⟨g, o + i * K.sz + j, none⟩ = some u) len fun i hil => by
      obtain ⟨cs', hc, ht'⟩ := hi i (by omega)
      obtain ⟨y, rfl, hg⟩ := dec n cs' _ ht'
      obtain ⟨_, hcl, hat⟩ := World.cells?_some hc
      rw [hC] at hat
      have ha := hsp (by omega)
      refine ⟨y, hg, a.block, a.off, congrArg some ha, fun j u hj => ?_⟩
      have hjl : j < K.sz := by rw [← K.len y]; exact (List.getElem?_eq_some_iff.1 hj).1
      have := hat j hjl
      rw [ha] at this
      simp only [Addr.add_lit] at this
      rw [this, hj]
    subst hll
    exact ⟨l, ⟨some a, cap, hcs, fun i x hx => (hq i x hx).2⟩, fun x hx => by obtain ⟨i, hil, rfl⟩ := List.getElem_of_mem hx; exact (hq i _ (List.getElem?_eq_getElem hil)).1, some a, cap, hcs, hl, hm⟩
end Go.Proofs.Ytbafdfkmakehnaa

namespace Go.Proofs.Ytbafdfkmakehnaa
set_option linter.unusedVariables false
set_option linter.unusedSimpArgs false
open Go.ChangeShapes Go.WideShapes Go.ChangeAt Go.RowKit Go.Joins

theorem own : ownKnob Try.prog.godebug = none := by kernel_rfl
theorem laid : laidOutB Try.prog = true := by kernel_rfl

theorem Kd.encs_split {α : Type} (K : Kd α) (l : List α) : ∀ (j : Nat) (u : Value), (K.encs l)[j]? = some u → ∃ i x j', l[i]? = some x ∧ (K.enc x)[j']? = some u ∧ j = i * K.sz + j' := by
  induction l with
  | nil => intro j u h; simp [Kd.encs] at h
  | cons a l ih =>
    intro j u h
    rw [K.encs_cons] at h
    rcases Nat.lt_or_ge j (K.enc a).length with hj | hj
    · rw [List.getElem?_append_left hj] at h
      exact ⟨0, a, j, rfl, h, by omega⟩
    · rw [List.getElem?_append_right hj, K.len] at h
      obtain ⟨i, x, j', h1, h2, h3⟩ := ih _ _ h
      rw [K.len] at hj
      refine ⟨i + 1, x, j', by simpa using h1, h2, ?_⟩
      rw [Nat.add_mul, Nat.one_mul]; omega
theorem RdA.rd {α : Type} {K : Kd α} {w : World} {A : Option Addr} {n cap : Nat} {l : List α} (h : RdA K w (.slice A n cap) l) (h1 : l.length ≤ cap) (h2 : cap ≤ maxLen) : Rd K w (.slice A l.length cap) l := by
  cases l with
  | nil => exact Rd.empty K w A cap
  | cons a l =>
    obtain ⟨g, o, rfl, _⟩ := h.at (i := 0) (x := a) rfl
    refine .inr ⟨g, o, cap, rfl, h1, h2, fun j u hu => ?_⟩
    obtain ⟨i, x, j', e1, e2, rfl⟩ := K.encs_split _ _ _ hu
    obtain ⟨g', o', hg, hc⟩ := h.at e1
    simp only [Option.some.injEq, Addr.mk.injEq] at hg
    obtain ⟨rfl, rfl, _⟩ := hg
    rw [← Nat.add_assoc]
    exact hc j' u e2

section
variable {H : Type} {enc : TypeId × Value → H} {w : World} {base : Nat} {spare : Nat → Bool} {held : Bool}

theorem byte_dec {n : Nat} {cs : List Value} {y : DataW H × List MemPlace} (h : DataW.trod enc Try.prog w base spare held n 5 cs = some y) : ∃ x : Nat, cs = BK.enc x ∧ x < 256 := by
  obtain ⟨k, e0, _, wk⟩ := DataW.trod_int Try.underlying5 h
  have := bounds_u8 wk
  refine ⟨k.toNat, ?_, by omega⟩
  rw [e0]
  show [Value.int .u8 k] = [.int .u8 ((k.toNat : Nat) : Int)]
  rw [Int.toNat_of_nonneg this.1]
set_option maxRecDepth 100000 in
/-- Bytes that came in. -/
theorem bytes_dec {n : Nat} {v : Value} {y : DataW H × List MemPlace} (h : DataW.trod enc Try.prog w base spare held n 27 [v] = some y) : ∃ l : List Nat, Rd BK w v l ∧ ∀ x ∈ l, x < 256 := by
  obtain ⟨l, h1, h2, A, cap, rfl, h3, h4⟩ := open_rows (K := BK) (fun x : Nat => x < 256) Try.underlying27 (by kernel_rfl) (fun n cs' y hy => byte_dec hy) h
  exact ⟨l, h1.rd h3 h4, h2⟩
set_option maxRecDepth 100000 in
theorem open_bytes {v : Value} {d : DataW H} {p : List MemPlace} {r : Reach} {b0 : Nat} (hv : Value.okWide Try.prog w r b0 27 v) (h : DataW.Trod enc Try.prog w base spare held 27 v d p) : ∃ l : List Nat, Rd BK w v l ∧ ∀ x ∈ l, x < 256 := by
  obtain ⟨a0, len, cap, rfl⟩ := okWide_slice Try.underlying27 hv
  obtain ⟨fuel, hf⟩ := h
  exact bytes_dec hf
set_option maxRecDepth 100000 in
theorem open_packet {v : Value} {d : DataW H} {p : List MemPlace} {r : Reach} {b0 : Nat} (hv : Value.okWide Try.prog w r b0 40 v) (h : DataW.Trod enc Try.prog w base spare held 40 v d p) :
    ∃ (hd : Bool) (n : Nat) (v2 : Value) (l : List Nat), v = .agg #[.bool hd, .int .u64 (n : Int), v2] ∧ n < 18446744073709551616 ∧ Rd BK w v2 l ∧ ∀ x ∈ l, x < 256 := by
  obtain ⟨v0, v1, v2, y0, y1, y2, n, rfl, _, _, h0, h1, h2⟩ := open_agg3 Try.underlying40 (by kernel_rfl) (by kernel_rfl) hv h
  obtain ⟨b, e0, _⟩ := DataW.trod_bool Try.underlying4 h0
  obtain ⟨k, e1, _, wk⟩ := DataW.trod_int Try.underlying30 h1
  obtain ⟨l, h3, h4⟩ := bytes_dec h2
  simp at e0 e1
  subst e0 e1
  have hb := bounds_u64 wk
  refine ⟨b, k.toNat, v2, l, ?_, by omega, h3, h4⟩
  rw [Int.toNat_of_nonneg hb.1]
end
end Go.Proofs.Ytbafdfkmakehnaa

namespace Go.Proofs.Ytbafdfkmakehnaa
set_option linter.unusedVariables false
set_option linter.unusedSimpArgs false
open Go.ChangeShapes Go.WideShapes Go.ChangeAt Go.RowKit Go.Joins

/-- A slice's head, and what it reads as. -/
structure SlH where
  A : Option Addr
  c : Nat
  b : List Nat
def SlH.val (x : SlH) : Value := .slice x.A x.b.length x.c
def SHK : Kd SlH := { sz := 1, enc := fun x => [x.val], len := fun _ => rfl, one := by intro a v hv; simp at hv; subst hv; rfl, pos := by decide }
def SlH.ok (w : World) (x : SlH) : Prop := Rd BK w x.val x.b ∧ ∀ y ∈ x.b, y < 256
theorem SlH.ok.kpNo {w w' : World} {x : SlH} (h : x.ok w) (hk : Kp No w w') : x.ok w' := ⟨h.1.kpNo hk, h.2⟩
theorem Rd.slAt {w : World} {l : List SlH} {g o n cap : Nat} (h : Rd SHK w (.slice (some ⟨g, o, none⟩) n cap) l) {i : Nat} {x : SlH} (hx : l[i]? = some x) : w.cell? ⟨g, o + i, none⟩ = some (.slice x.A x.b.length x.c) := by
  have := h.at rfl hx (j := 0) rfl
  simpa [SHK, SlH.val] using this

section
variable {H : Type} {enc : TypeId × Value → H} {w : World} {base : Nat} {spare : Nat → Bool} {held : Bool}
theorem slh_dec {n : Nat} {cs : List Value} {y : DataW H × List MemPlace} (h : DataW.trod enc Try.prog w base spare held n 27 cs = some y) : ∃ x : SlH, cs = SHK.enc x ∧ x.ok w := by
  have hc : ∃ v, cs = [v] := by
    rcases Go.Deep.open_slice Try.underlying27 h with ⟨h0, _⟩ | ⟨a, len, cap, m, n, D, Pl, hcs, _⟩
    · exact ⟨_, h0⟩
    · exact ⟨_, hcs⟩
  obtain ⟨v, rfl⟩ := hc
  obtain ⟨b, h1, h2⟩ := bytes_dec h
  obtain ⟨A, c, rfl⟩ := h1.shape
  exact ⟨⟨A, c, b⟩, rfl, h1, h2⟩
end
end Go.Proofs.Ytbafdfkmakehnaa

namespace Go.Proofs.Ytbafdfkmakehnaa
set_option linter.unusedVariables false
set_option linter.unusedSimpArgs false
open Go.ChangeShapes Go.WideShapes Go.ChangeAt Go.RowKit Go.Joins

structure A18 where
  k : Nat
  xk : Nat
  xc : Int
  xp : Int
  n : Nat
  s : SlH
def AK18 : Kd A18 := { sz := 6, enc := fun x => [.int .u8 (x.k : Int), .int .u8 (x.xk : Int), .int .i64 x.xc, .int .i64 x.xp, .int .u64 (x.n : Int), x.s.val], len := fun _ => rfl, one := by intro a v hv; simp at hv; rcases hv with rfl | rfl | rfl | rfl | rfl | rfl <;> rfl, pos := by decide }
theorem elA18 : ElT Try.prog 47 53 AK18 64 := ElT.of (z := .agg #[.int .u8 0, .int .u8 0, .int .i64 0, .int .i64 0, .int .u64 0, .slice none 0 0]) (by kernel_rfl) (by kernel_rfl) rfl
def A18.ok (w : World) (x : A18) : Prop := x.s.ok w ∧ x.k < 256 ∧ x.xk < 256 ∧ x.n < 18446744073709551616
theorem Rd.act18At {w : World} {l : List A18} {g o n cap : Nat} (h : Rd AK18 w (.slice (some ⟨g, o, none⟩) n cap) l) {i : Nat} {x : A18} (hx : l[i]? = some x) :
    w.cell? ⟨g, o + i * 6, none⟩ = some (.int .u8 (x.k : Int)) ∧ w.cell? ⟨g, o + i * 6 + 1, none⟩ = some (.int .u8 (x.xk : Int)) ∧ w.cell? ⟨g, o + i * 6 + 2, none⟩ = some (.int .i64 x.xc) ∧ w.cell? ⟨g, o + i * 6 + 3, none⟩ = some (.int .i64 x.xp) ∧
      w.cell? ⟨g, o + i * 6 + 4, none⟩ = some (.int .u64 (x.n : Int)) ∧ w.cell? ⟨g, o + i * 6 + 5, none⟩ = some (.slice x.s.A x.s.b.length x.s.c) :=
  ⟨h.at rfl hx (j := 0) rfl, h.at rfl hx (j := 1) rfl, h.at rfl hx (j := 2) rfl, h.at rfl hx (j := 3) rfl, h.at rfl hx (j := 4) rfl, h.at rfl hx (j := 5) rfl⟩

section
variable {H : Type} {enc : TypeId × Value → H} {w : World} {base : Nat} {spare : Nat → Bool} {held : Bool}
set_option maxRecDepth 100000 in
theorem act_dec {n : Nat} {cs : List Value} {y : DataW H × List MemPlace} (h : DataW.trod enc Try.prog w base spare held n 32 cs = some y) : ∃ (k : Nat) (c p : Int), cs = [.int .u8 (k : Int), .int .i64 c, .int .i64 p] ∧ k < 256 := by
  obtain ⟨ys, n', rfl, hy, hlen, hyl, hf⟩ := DataW.trod_struct Try.underlying32 h
  have hc : Try.prog.cellsOf 32 = 3 := by kernel_rfl
  have hu : Try.prog.cellsOf 5 = 1 := by kernel_rfl
  have hi : Try.prog.cellsOf 3 = 1 := by kernel_rfl
  rw [hc] at hlen
  match cs, hlen with
  | [c0, c1, c2], _ =>
    match ys, hyl with
    | [y0, y1, y2], _ =>
      have h0 := hf 0 _ rfl
      have h1 := hf 1 _ rfl
      have h2 := hf 2 _ rfl
      simp [hu, hi] at h0 h1 h2
      obtain ⟨k, e0, _, wk⟩ := DataW.trod_int Try.underlying5 h0
      obtain ⟨c, e1, _, _⟩ := DataW.trod_int Try.underlying3 h1
      obtain ⟨p, e2, _, _⟩ := DataW.trod_int Try.underlying3 h2
      have hk := bounds_u8 wk
      simp at e0 e1 e2
      refine ⟨k.toNat, c, p, ?_, by omega⟩
      rw [e0, e1, e2, Int.toNat_of_nonneg hk.1]
set_option maxRecDepth 100000 in
theorem act18_dec {n : Nat} {cs : List Value} {y : DataW H × List MemPlace} (h : DataW.trod enc Try.prog w base spare held n 53 cs = some y) : ∃ x : A18, cs = AK18.enc x ∧ x.ok w := by
  obtain ⟨ys, n', rfl, hy, hlen, hyl, hf⟩ := DataW.trod_struct Try.underlying53 h
  have hc : Try.prog.cellsOf 53 = 6 := by kernel_rfl
  have hu : Try.prog.cellsOf 5 = 1 := by kernel_rfl
  have ha : Try.prog.cellsOf 32 = 3 := by kernel_rfl
  have h64 : Try.prog.cellsOf 30 = 1 := by kernel_rfl
  have hb : Try.prog.cellsOf 27 = 1 := by kernel_rfl
  rw [hc] at hlen
  match cs, hlen with
  | [c0, c1, c2, c3, c4, c5], _ =>
    match ys, hyl with
    | [y0, y1, y2, y3], _ =>
      have h0 := hf 0 _ rfl
      have h1 := hf 1 _ rfl
      have h2 := hf 2 _ rfl
      have h3 := hf 3 _ rfl
      simp [hu, ha, h64, hb] at h0 h1 h2 h3
      obtain ⟨k, e0, _, wk⟩ := DataW.trod_int Try.underlying5 h0
      obtain ⟨xk, xc, xp, e1, wx⟩ := act_dec h1
      obtain ⟨n, e2, _, wn⟩ := DataW.trod_int Try.underlying30 h2
      obtain ⟨x, e3, ok⟩ := slh_dec h3
      have hk := bounds_u8 wk
      have hn := bounds_u64 wn
      simp at e0 e1 e2
      have e3' : c5 = x.val := by simpa [SHK] using e3
      obtain ⟨rfl, rfl, rfl⟩ := e1
      refine ⟨⟨k.toNat, xk, xc, xp, n.toNat, x⟩, ?_, ok, by show k.toNat < 256; omega, wx, by show n.toNat < _; omega⟩
      rw [e0, e2, e3']
      show [Value.int .u8 k, .int .u8 (xk : Int), .int .i64 xc, .int .i64 xp, .int .u64 n, x.val] = [.int .u8 ((k.toNat : Nat) : Int), .int .u8 (xk : Int), .int .i64 xc, .int .i64 xp, .int .u64 ((n.toNat : Nat) : Int), x.val]
      rw [Int.toNat_of_nonneg hk.1, Int.toNat_of_nonneg hn.1]
set_option maxRecDepth 100000 in
theorem open_acts18 {v : Value} {d : DataW H} {p : List MemPlace} {r : Reach} {b0 : Nat} (hv : Value.okWide Try.prog w r b0 47 v) (h : DataW.Trod enc Try.prog w base spare held 47 v d p) : ∃ l : List A18, Rd AK18 w v l ∧ ∀ x ∈ l, x.ok w := by
  obtain ⟨a0, len, cap, rfl⟩ := okWide_slice Try.underlying47 hv
  obtain ⟨fuel, hf⟩ := h
  obtain ⟨l, h1, h2, A, cap', hv', h3, h4⟩ := open_rows (K := AK18) (A18.ok w) Try.underlying47 (by kernel_rfl) (fun n cs' y hy => act18_dec hy) hf
  simp only [Value.slice.injEq] at hv'
  obtain ⟨rfl, rfl, rfl⟩ := hv'
  exact ⟨l, h1.rd h3 h4, h2⟩
end

/-- What few hands back. -/
def Few18R (v : Value) (l : List A18) (w : World) (e : Ending) (w' : World) : Prop := ∃ v' m, e = .returned v' ∧ m ≤ l.length ∧ (∀ w0, Rd AK18 w0 v l → Rd AK18 w0 v' (l.take m)) ∧ m ≤ 150 ∧ (∀ x ∈ l.take m, x.s.b.length ≤ 300) ∧ w = w'
theorem Rd.uptoD {α : Type} {K : Kd α} {P : Program} {t e : TypeId} {bytes : Nat} (E : ElT P t e K bytes) {w0 : World} {v v2 : Value} {l : List α} (h : Rd K w0 v l) (p : Nat) (hp : p ≤ l.length) (x : Int) (hx : x = p)
    (hr : ∀ w', (Instr.slice t v none (some (.int .i64 x)) none).run P w' = .ok v2 w') : Rd K w0 v2 (l.take p) := by
  obtain ⟨v3, h1, h2, _⟩ := h.upto E p hp x hx
  have := (h1 w0).symm.trans (hr w0)
  simp only [Result.ok.injEq, and_true] at this
  rw [← this]; exact h2
theorem Rd.lenL {α : Type} {K : Kd α} {w : World} {v : Value} {l : List α} (h : Rd K w v l) : l.length ≤ maxLen := by
  rcases h with ⟨_, rfl⟩ | ⟨_, _, _, _, h1, h2, _⟩
  · simp
  · omega

set_option maxRecDepth 100000 in
theorem few18_any {w : World} {v : Value} {l : List A18} (hv : Rd AK18 w v l) : Calls Try.prog 21 #[v] w (Few18R v l w) := by
  have HL := Lib.hid hv.lenL
  obtain ⟨A, cap, rfl⟩ := hv.shape
  have H := Lib.hid hv
  clear hv
  go_enter Try.func21, Try.ntmps21
  go_wp2
  go_loop [6] (fun i => ∃ k : Nat, i = .int .i64 k ∧ k ≤ l.length ∧ k ≤ 150 ∧ ∀ x ∈ l.take k, x.s.b.length ≤ 300) (fun i => l.length - (intOf i).toNat)
  case atStart => exact ⟨0, rfl, by omega, by omega, fun x hx => by simp at hx⟩
  case round =>
    obtain ⟨k, rfl, hk, hk1, hx⟩ := hrel
    have HXS := Lib.hid hx
    clear hx
    by_cases hlt : k < l.length
    · obtain ⟨x, hx⟩ : ∃ x, l[k]? = some x := ⟨_, List.getElem?_eq_getElem hlt⟩
      have hltI : (k : Int) < (l.length : Int) := by omega
      have hml := HL.out
      have hwk : IntKind.i64.wrap ((k : Int) + 1) = (k : Int) + 1 := IntWalk.i64_in _ (by omega)
      obtain ⟨s, A2, c2, HS, hsl, hrun, HD, _⟩ := H.out.upto2 elA18 k (by omega) (k : Int) rfl
      have HRUN := Lib.hid hrun
      rcases H.out with ⟨_, he⟩ | ⟨g, o, cap', hv, _⟩
      · rw [he] at hlt; simp at hlt
      simp only [Value.slice.injEq] at hv
      obtain ⟨rfl, _, rfl⟩ := hv
      obtain ⟨hc0, hc1, hc2, hc3, hc4, hc5⟩ := H.out.act18At hx
      have HSN := Lib.hid (show l.take (k + 1) = l.take k ++ [x] by rw [List.take_add_one, hx]; rfl)
      clear hx hlt hml hc0 hc1 hc2 hc3 hc4
      by_cases h100 : k < 150
      · have h1I : ¬ (150 : Int) ≤ (k : Int) := by omega
        by_cases h300 : 300 < x.s.b.length
        · have h3I : (300 : Int) < (x.s.b.length : Int) := by omega
          clear h300 hsl
          go_wp2
          go_ret
          exact ⟨_, k, rfl, hk, fun w0 h0 => h0.uptoD elA18 k hk (k : Int) rfl HRUN.out, hk1, HXS.out, rfl⟩
        · have h3I : ¬ (300 : Int) < (x.s.b.length : Int) := by omega
          have h3 : x.s.b.length ≤ 300 := by omega
          clear h300 hsl hrun
          go_wp2
          go_round
          case rel => exact ⟨k + 1, by go_num, by omega, by omega, fun y hy => by rw [HSN.out] at hy; rcases List.mem_append.1 hy with hy | hy; exact HXS.out y hy; rw [List.mem_singleton.1 hy]; exact h3⟩
          case measure => simp [intOf]; omega
      · have h1I : (150 : Int) ≤ (k : Int) := by omega
        clear h100 hsl
        go_wp2
        go_ret
        exact ⟨_, k, rfl, hk, fun w0 h0 => h0.uptoD elA18 k hk (k : Int) rfl HRUN.out, hk1, HXS.out, rfl⟩
    · obtain rfl : k = l.length := by omega
      have hd0 : ¬ (l.length : Int) < (l.length : Int) := by omega
      clear hlt
      go_wp2
      go_ret
      exact ⟨.slice A l.length cap, l.length, rfl, Nat.le_refl _, fun w0 h0 => by rw [List.take_length]; exact h0, hk1, HXS.out, rfl⟩
end Go.Proofs.Ytbafdfkmakehnaa

namespace Go.Proofs.Ytbafdfkmakehnaa
set_option linter.unusedVariables false
set_option linter.unusedSimpArgs false
open Go.RowKit

/-- The robot between two acts. -/
def ro (n : Nat) (at_ C : Int) : Rob := { dock := 7, cell := at_, to_ := -1, full := 1000, charge := C, act := none, done := n, heard := n, told := n, on := false }
def roA (n : Nat) (at_ C : Int) (k : Nat) (c q : Int) : Rob := { dock := 7, cell := at_, to_ := -1, full := 1000, charge := C, act := some (k, c, q), done := n, heard := n + 1, told := n, on := false }
def roG (n : Nat) (at_ C c : Int) : Rob := { dock := 7, cell := at_, to_ := c, full := 1000, charge := C - 1, act := some (1, c, 0), done := n, heard := n + 1, told := n, on := false }
def roD (n : Nat) (at_ C : Int) : Rob := { dock := 7, cell := at_, to_ := -1, full := 1000, charge := C, act := none, done := n + 1, heard := n + 1, told := n, on := true }
def roE (n : Nat) (at_ C : Int) : Rob := { dock := 7, cell := at_, to_ := -1, full := 1000, charge := C, act := none, done := n + 1, heard := n + 1, told := n + 1, on := false }
theorem ro_new : newRob 7 1000 = ro 0 7 1000 := rfl
theorem roE_ro (n : Nat) (at_ C : Int) : roE n at_ C = ro (n + 1) at_ C := rfl
section
variable {n k : Nat} {at_ C c q : Int}
theorem ro_ok (hn : n ≤ 60) (hC : 0 ≤ C) (hC2 : C ≤ 1000) : (ro n at_ C).ok :=
  rob_ok_of (fun _ _ _ e => by cases e) (.inl rfl) hC (by show C ≤ _; omega) ⟨by show (0 : Int) ≤ 1000; decide, by show (1000 : Int) ≤ _; decide⟩ (by show n < _; omega) (by show n < _; omega) (by show n < _; omega)
theorem roA_ok (hm : mayA k c q = true) (hn : n ≤ 60) (hC : 0 ≤ C) (hC2 : C ≤ 1000) : (roA n at_ C k c q).ok :=
  rob_ok_of (fun _ _ _ e => by have e : some (k, c, q) = some (_, _, _) := e; simp at e; obtain ⟨rfl, rfl, rfl⟩ := e; exact hm) (.inl rfl) hC (by show C ≤ _; omega) ⟨by show (0 : Int) ≤ 1000; decide, by show (1000 : Int) ≤ _; decide⟩ (by show n < _; omega) (by show n + 1 < _; omega) (by show n < _; omega)
theorem roG_ok (hm : mayA 1 c 0 = true) (hn : n ≤ 60) (hC : 1 ≤ C) (hC2 : C ≤ 1000) : (roG n at_ C c).ok :=
  rob_ok_of (fun _ _ _ e => by have e : some (1, c, (0 : Int)) = some (_, _, _) := e; simp at e; obtain ⟨rfl, rfl, rfl⟩ := e; exact hm) (.inr ⟨⟨0, rfl⟩, (mayA_spec hm).2.2.1⟩) (by show 0 ≤ C - 1; omega) (by show C - 1 ≤ _; omega) ⟨by show (0 : Int) ≤ 1000; decide, by show (1000 : Int) ≤ _; decide⟩ (by show n < _; omega) (by show n + 1 < _; omega) (by show n < _; omega)
theorem roD_ok (hn : n ≤ 60) (hC : 0 ≤ C) (hC2 : C ≤ 1000) : (roD n at_ C).ok :=
  rob_ok_of (fun _ _ _ e => by cases e) (.inl rfl) hC (by show C ≤ _; omega) ⟨by show (0 : Int) ≤ 1000; decide, by show (1000 : Int) ≤ _; decide⟩ (by show n + 1 < _; omega) (by show n + 1 < _; omega) (by show n < _; omega)
theorem ro_hear (hm : mayA k c q = true) (hn : n ≤ 60) : hearS (ro n at_ C) (pktA (n + 1) k c q) = roA n at_ C k c q ∧ hearB (ro n at_ C) (pktA (n + 1) k c q) = layL true (n + 1) [] := hear_next (R := ro n at_ C) (n := n + 1) (by omega) hm rfl rfl
/-- The packet comes again. -/
theorem ro_again (hn : n ≤ 60) : hearS (roA n at_ C k c q) (pktA (n + 1) k c q) = roA n at_ C k c q ∧ hearB (roA n at_ C k c q) (pktA (n + 1) k c q) = layL true (n + 1) [] := by
  obtain ⟨q1, q2, q3, q4⟩ := ack_laid (n + 1) (n + 1) (layA k c q) (by omega) (Nat.le_trans (layA_le _ _ _) (by decide)) (layA_lt k c q)
  have hnx : nxt (n + 1) = n + 2 := by unfold nxt; omega
  have hf : freshB (roA n at_ C k c q).heard (pktA (n + 1) k c q) = false := by show freshB (n + 1) _ = false; unfold pktA; rw [q2, hnx]; simp
  have hk : ackB (roA n at_ C k c q).heard (pktA (n + 1) k c q) = true := by show ackB (n + 1) _ = true; unfold pktA; rw [q1, hnx]; simp
  have ht : takesB (roA n at_ C k c q) (pktA (n + 1) k c q) = false := by unfold takesB; rw [hf]; rfl
  constructor
  · unfold hearS; rw [hf, ht]; simp
  · unfold hearB; rw [hk, if_pos rfl]; unfold pktA; rw [q3]
theorem tell_n (hn : n ≤ 60) : tellE n false [] = 0 := by unfold tellE; rw [if_neg (by decide), if_neg (fun h => by rcases h with h | h; simp at h; omega)]
theorem ro_go (hC : 1 ≤ C) : stepS (roA n at_ C 1 c 0) = roG n at_ C c ∧ stepB (roA n at_ C 1 c 0) = false := by
  refine ⟨?_, rfl⟩
  unfold stepS roA
  simp only [if_pos trivial]
  rw [if_pos (by omega)]; rfl
theorem ro_come (hn : n ≤ 60) (h0 : 0 ≤ c) : stepS (roG n at_ C c) = roD n c (if c = 7 then 1000 else C - 1) ∧ stepB (roG n at_ C c) = true := by
  have hm : (n + 1) % 18446744073709551616 = n + 1 := Nat.mod_eq_of_lt (by omega)
  constructor
  · unfold stepS roG
    simp only [if_pos trivial]
    rw [if_neg (by omega)]
    unfold doneS roD
    simp only [hm, tell_n hn]
    simp
  · unfold stepB roG
    simp only [decide_eq_true trivial]
    rw [decide_eq_false (by omega)]; rfl
theorem ro_do (hn : n ≤ 60) (hk : k ≠ 1) : stepS (roA n at_ C k c q) = roD n at_ C ∧ stepB (roA n at_ C k c q) = true := by
  have hm : (n + 1) % 18446744073709551616 = n + 1 := Nat.mod_eq_of_lt (by omega)
  constructor
  · unfold stepS roA
    simp only [if_neg hk]
    unfold doneS roD
    simp only [hm, tell_n hn]
    simp
  · unfold stepB roA
    simp only [decide_eq_false hk]; rfl
theorem ro_heard (hn : n ≤ 60) : heardS (roD n at_ C) (layL true (n + 1) []) = roE n at_ C ∧ heardB n true (layL true (n + 1) []) = true := by
  have h := heard_laid n (n + 1) true (by omega)
  have h2 : heardB n true (layL true (n + 1) []) = true := by rw [h]; simp
  refine ⟨?_, h2⟩
  unfold heardS roD roE
  simp only [h2]
  simp
theorem ro_heard2 (m : Nat) (F : List Nat) : heardB m false F = false := by unfold heardB; simp
theorem roE_heard (F : List Nat) : heardS (roE n at_ C) F = roE n at_ C := by
  unfold heardS roE
  simp only [ro_heard2]
  simp
/-- What the robot tells comes to a receiver. -/
theorem rcv_first (hn : n ≤ 60) : freshB n (layL false (n + 1) []) = true ∧ ackB n (layL false (n + 1) []) = true ∧ tkN (layL false (n + 1) []) = n + 1 ∧ nxt n = n + 1 := by
  obtain ⟨q1, q2, q3, q4⟩ := ack_laid n (n + 1) [] (by omega) (by simp) (by simp)
  have hnx : nxt n = n + 1 := by unfold nxt; omega
  exact ⟨by rw [q2, hnx]; simp, by rw [q1, hnx]; simp, q3, hnx⟩
theorem rcv_again (hn : n ≤ 60) : freshB (n + 1) (layL false (n + 1) []) = false ∧ ackB (n + 1) (layL false (n + 1) []) = true := by
  obtain ⟨q1, q2, q3, q4⟩ := ack_laid (n + 1) (n + 1) [] (by omega) (by simp) (by simp)
  have hnx : nxt (n + 1) = n + 2 := by unfold nxt; omega
  exact ⟨by rw [q2, hnx]; simp, by rw [q1, hnx]; simp⟩
end

/-! ### The memory -/
structure OnceS (w0 : World) (p ph ps sp hp : Nat) (R : Rob) (n : Nat) (on : Bool) (d : List Nat) (m : Nat) (w : World) : Prop where
  a : RobA w0 p ph ps R w
  s : ∃ V, SndS sp n on d V w
  h : RcvS hp m w
  ne1 : sp ≠ ps
  ne2 : hp ≠ ph
  s0 : w0.heap.size ≤ sp
  h0 : w0.heap.size ≤ hp
section
variable {w0 w w' : World} {p ph ps sp hp : Nat} {R R' : Rob} {n n' m m' : Nat} {on on' : Bool} {d d' : List Nat}
def RobW (p ph ps : Nat) (w w' : World) : Prop := Kp (fun k => k = p ∨ k = ph ∨ k = ps) w w'
theorem RobA.ty3 (h : RobA w0 p ph ps R w) : Ty w (fun k => k = p ∨ k = ph ∨ k = ps) [76, 95, 93] := let ⟨_, _, h1⟩ := h.ex; h1.ty3
theorem RobA.blks (h : RobA w0 p ph ps R w) : (∃ cs, w.heap[p]? = some (.cells cs 76 (0, 0))) ∧ (∃ cs, w.heap[ph]? = some (.cells cs 95 (0, 0))) ∧ (∃ cs, w.heap[ps]? = some (.cells cs 93 (0, 0))) :=
  let ⟨_, _, h1⟩ := h.ex
  ⟨⟨_, h1.blk⟩, ⟨_, h1.r.blk⟩, ⟨_, h1.s.blk⟩⟩
theorem OnceS.no (h : OnceS w0 p ph ps sp hp R n on d m w) (hk : Kp No w w') : OnceS w0 p ph ps sp hp R n on d m w' := let ⟨V, s⟩ := h.s; ⟨h.a.no hk, ⟨V, s.no hk⟩, h.h.no hk, h.ne1, h.ne2, h.s0, h.h0⟩
theorem OnceS.rob (h : OnceS w0 p ph ps sp hp R n on d m w) (hk : RobW p ph ps w w') (a : RobA w0 p ph ps R' w') : OnceS w0 p ph ps sp hp R' n on d m w' := by
  obtain ⟨V, s⟩ := h.s
  obtain ⟨⟨_, b1⟩, ⟨_, b2⟩, ⟨_, b3⟩⟩ := h.a.blks
  have ty := h.a.ty3
  refine ⟨a, ⟨V, s.far hk (fun e => ?_) (ty.notO s.own (by decide))⟩, h.h.far hk (fun e => ?_), h.ne1, h.ne2, h.s0, h.h0⟩
  · rcases e with e | e | e
    · exact (Ty.one s.blk).not b1 (by decide) e.symm
    · exact (Ty.one s.blk).not b2 (by decide) e.symm
    · exact h.ne1 e
  · rcases e with e | e | e
    · exact (Ty.one h.h.blk).not b1 (by decide) e.symm
    · exact h.ne2 e
    · exact (Ty.one h.h.blk).not b3 (by decide) e.symm
theorem OnceS.snd (h : OnceS w0 p ph ps sp hp R n on d m w) (hk : Kp (fun k => k = sp) w w') {V' : Value} (s' : SndS sp n' on' d' V' w') : OnceS w0 p ph ps sp hp R n' on' d' m w' := by
  obtain ⟨V, s⟩ := h.s
  obtain ⟨pa, U, r⟩ := h.a.ex
  have ty := Ty.one s.blk
  refine ⟨⟨⟨pa, U, hk.blk r.blk (ty.not r.blk (by decide)), r.non, fun k c q e => let ⟨a, e1, e2⟩ := r.act k c q e; ⟨a, e1, hk.blk e2 (ty.not e2 (by decide))⟩, r.r.far hk (ty.not r.r.blk (by decide)), r.s.far hk (fun e => h.ne1 e.symm) (ty.notO r.s.own (by decide))⟩, h.a.kp.trans' hk (fun k hk e => by have e : k = sp := e; have := h.s0; omega), h.a.p0, h.a.h0, h.a.s0⟩, ⟨V', s'⟩, h.h.far hk (ty.not h.h.blk (by decide)), h.ne1, h.ne2, h.s0, h.h0⟩
theorem OnceS.rcv (h : OnceS w0 p ph ps sp hp R n on d m w) (hk : Kp (fun k => k = hp) w w') (h' : RcvS hp m' w') : OnceS w0 p ph ps sp hp R n on d m' w' := by
  obtain ⟨V, s⟩ := h.s
  obtain ⟨pa, U, r⟩ := h.a.ex
  have ty := Ty.one h.h.blk
  refine ⟨⟨⟨pa, U, hk.blk r.blk (ty.not r.blk (by decide)), r.non, fun k c q e => let ⟨a, e1, e2⟩ := r.act k c q e; ⟨a, e1, hk.blk e2 (ty.not e2 (by decide))⟩, r.r.far hk (fun e => h.ne2 e.symm), r.s.far hk (ty.not r.s.blk (by decide)) (ty.notO r.s.own (by decide))⟩, h.a.kp.trans' hk (fun k hk e => by have e : k = hp := e; have := h.h0; omega), h.a.p0, h.a.h0, h.a.s0⟩, ⟨V, s.far hk (ty.not s.blk (by decide)) (ty.notO s.own (by decide))⟩, h', h.ne1, h.ne2, h.s0, h.h0⟩
theorem stepO (h : RobA w0 p ph ps R w) (ok : R.ok) : Calls Try.prog 12 #[.pointer (some ⟨p, 0, none⟩)] w fun e w' => e = .returned (.bool (stepB R)) ∧ RobA w0 p ph ps (stepS R) w' ∧ RobW p ph ps w w' :=
  let ⟨_, _, h1⟩ := h.ex
  (step_any h1 ok).mono fun _ _ ⟨a, b⟩ => ⟨a, b.a h, b.kp⟩
theorem heardO (h : RobA w0 p ph ps R w) {v : Value} {f : List Nat} (hv : Rd BK w v f) (hl : f.length ≤ 1000000) (hx : ∀ x ∈ f, x < 256) : Calls Try.prog 19 #[.pointer (some ⟨p, 0, none⟩), v] w fun e w' => e = .returned (.bool (heardB R.told R.on f)) ∧ RobA w0 p ph ps (heardS R f) w' ∧ RobW p ph ps w w' :=
  let ⟨_, _, h1⟩ := h.ex
  (rheard_any h1 hv hl hx).mono fun _ _ ⟨a, b⟩ => ⟨a, b.a h, b.kp⟩
def HearO (w0 : World) (p ph ps : Nat) (R : Rob) (F : List Nat) (w : World) (e : Ending) (w' : World) : Prop := ∃ v', e = .returned v' ∧ Own BK 5 w' v' (hearB R F) ∧ (∀ g, v'.ownBlock = some g → w.heap.size ≤ g) ∧ RobA w0 p ph ps (hearS R F) w' ∧ RobW p ph ps w w'
theorem hearO (h : RobA w0 p ph ps R w) (ok : R.ok) {v : Value} {F : List Nat} (hv : Rd BK w v F) (hl : F.length ≤ 1000000) (hx : ∀ x ∈ F, x < 256) : Calls Try.prog 10 #[.pointer (some ⟨p, 0, none⟩), v] w (HearO w0 p ph ps R F w) :=
  let ⟨_, _, h1⟩ := h.ex
  (robHear_any h1 ok hv hl hx (tkD_len F) (tkD_byte F)).mono fun _ _ ⟨v', a, b, c, d⟩ => ⟨v', a, b, c, d.a h, d.kp⟩
end
end Go.Proofs.Ytbafdfkmakehnaa

namespace Go.Proofs.Ytbafdfkmakehnaa
set_option linter.unusedVariables false
set_option linter.unusedSimpArgs false
open Go.RowKit

/-- The robot behind j steps of an act. -/
def rst (n : Nat) (at_ C : Int) (k : Nat) (c q : Int) (at2 C2 : Int) (st j : Nat) : Rob := if j = 0 then roA n at_ C k c q else if j < st then roG n at_ C c else roD n at2 C2
structure RstP (n : Nat) (at_ C : Int) (k : Nat) (c q : Int) (at2 C2 : Int) (st : Nat) : Prop where
  est : st = 1 ∨ st = 2
  ok : ∀ j, j < st → (rst n at_ C k c q at2 C2 st j).ok
  next : ∀ j, j < st → stepS (rst n at_ C k c q at2 C2 st j) = rst n at_ C k c q at2 C2 st (j + 1) ∧ stepB (rst n at_ C k c q at2 C2 st j) = decide (j + 1 = st)
  last : rst n at_ C k c q at2 C2 st st = roD n at2 C2
theorem rst_p {n : Nat} {at_ C : Int} {k : Nat} {c q : Int} (hm : mayA k c q = true) (hn : n ≤ 60) (hC : 1 ≤ C) (hC2 : C ≤ 1000) : RstP n at_ C k c q (if k = 1 then c else at_) (if k = 1 then (if c = 7 then 1000 else C - 1) else C) (if k = 1 then 2 else 1) := by
  obtain ⟨m1, m2, m3, m4, m5, m6, m7⟩ := mayA_spec hm
  by_cases hk : k = 1
  · subst hk
    obtain rfl := m7 rfl
    rw [if_pos rfl, if_pos rfl, if_pos rfl]
    refine ⟨.inr rfl, fun j hj => ?_, fun j hj => ?_, rfl⟩
    · obtain rfl | rfl : j = 0 ∨ j = 1 := by omega
      · exact roA_ok hm hn (by omega) hC2
      · exact roG_ok hm hn hC hC2
    · obtain rfl | rfl : j = 0 ∨ j = 1 := by omega
      · exact ro_go hC
      · exact ro_come hn m3
  · rw [if_neg hk, if_neg hk, if_neg hk]
    refine ⟨.inl rfl, fun j hj => ?_, fun j hj => ?_, rfl⟩
    · obtain rfl : j = 0 := by omega
      exact roA_ok hm hn (by omega) hC2
    · obtain rfl : j = 0 := by omega
      exact ro_do hn hk
theorem neqActO (k c p : Int) (w : World) : (binOp .neq 32 (.agg #[.int .u8 k, .int .i64 c, .int .i64 p]) (.agg #[.int .u8 k, .int .i64 c, .int .i64 p])).run Try.prog w = .ok (.bool false) w := by
  simp [binOp, Op.equal, Op.maxDepth, go_sem]
/-- The act's box, and what is told. -/
def Box18 (x : A18) (bx : Nat) (w : World) : Prop := w.heap[bx]? = some (.cells #[.int .u8 (x.k : Int), .int .u8 (x.xk : Int), .int .i64 x.xc, .int .i64 x.xp, .int .u64 (x.n : Int), .slice x.s.A x.s.b.length x.s.c] 53 (0, 0))
theorem Box18.kp {x : A18} {bx : Nat} {w w' : World} {S : Nat → Prop} {ts : List TypeId} (h : Box18 x bx w) (hk : Kp S w w') (ty : Ty w S ts) (ht : 53 ∉ ts) : Box18 x bx w' := hk.blk h (ty.not h ht)
theorem Box18.no {x : A18} {bx : Nat} {w w' : World} (h : Box18 x bx w) (hk : Kp No w w') : Box18 x bx w' := hk.blk h (no_no _)

set_option maxHeartbeats 4000000 in
set_option maxRecDepth 100000 in
theorem robonce_any {w : World} {v : Value} {l : List A18} (hv : Rd AK18 w v l) (hg : ∀ x ∈ l, x.ok w) (y : Nat) (hy : y < 256) : Calls Try.prog 7 #[v, .int .u8 (y : Int)] w (LawR w) := by
  obtain ⟨A, cap, rfl⟩ := hv.shape
  have H := Lib.hid hv; have HG := Lib.hid hg
  obtain ⟨m4, hm4⟩ : ∃ m4, m4 = y % 4 := ⟨_, rfl⟩
  have hm4I : (y : Int) % 4 = (m4 : Int) := by omega
  have hm4l : m4 < 4 := by omega
  clear hv hg hm4
  go_enter Try.func7, Try.ntmps7
  go_wp2_with fail
  refine (shown18 _).mono ?_
  rintro e w1 ⟨rfl, k1⟩
  have K1 := Lib.hid k1
  clear k1
  go_wp2_with fail
  refine (newA 7 1000 w1).mono ?_
  rintro e w2 (⟨h, _⟩ | ⟨_, p, ph, ps, rfl, a2⟩)
  · exact absurd h (by decide)
  rw [ro_new] at a2
  have A2 := Lib.hid (a2.low K1.out)
  clear a2
  go_wp2_with fail
  refine (newSnd_any w2 0 (by decide) _ rfl).mono ?_
  rintro e w3 ⟨sp, rfl, s3, k3, g3, l3⟩
  have S3 := Lib.hid s3; have A3 := Lib.hid (A2.out.no k3); have G3 := Lib.hid g3; have L3 := Lib.hid l3; have K3 := Lib.hid k3
  clear s3 k3 g3 l3
  go_wp2_with fail
  refine (newRcv_any w3 0 (by decide) _ rfl).mono ?_
  rintro e w4 ⟨hp, rfl, r4, k4, g4, l4⟩
  have O4 : Hid (OnceS w p ph ps sp hp (ro 0 7 1000) 0 false [] 0 w4) := Lib.hid (by
    obtain ⟨⟨_, b1⟩, ⟨_, b2⟩, ⟨_, b3⟩⟩ := A2.out.blks
    have z2 := lt_of_block b2
    have z3 := lt_of_block b3
    have := G3.out; have := K3.out.size; have := A2.out.kp.size
    exact ⟨A3.out.no k4, ⟨_, S3.out.no k4⟩, r4, by omega, by omega, by omega, by omega⟩)
  clear r4 k4 g4 l4
  go_wp2_with fail
  refine (few18_any (H.out.kpNo O4.out.a.kp)).mono ?_
  rintro e w5 ⟨v4, m, rfl, hm, f1, hm1, f2, rfl⟩
  have f1 := f1 w H.out
  obtain ⟨fl, hfl⟩ : ∃ fl, fl = l.take m := ⟨_, rfl⟩
  rw [← hfl] at f1 f2
  obtain ⟨A4, c4, rfl⟩ := f1.shape
  have hfg : ∀ x ∈ fl, x.ok w := fun x hx => HG.out x (by rw [hfl] at hx; exact List.mem_of_mem_take hx)
  have hfl100 : fl.length ≤ 150 := by rw [hfl, List.length_take]; omega
  have HF1 := Lib.hid f1; have HFG := Lib.hid hfg
  clear f1 f2 hfg hfl hm hm1
  go_wp2_with fail
  go_loopg [10, 11, 54] (fl.length + 1) (fun g a nn i wr => ∃ k : Nat, g = fl.length + 1 - k ∧ i = .int .i64 k ∧ k ≤ fl.length ∧ ∃ (n : Nat) (at_ C : Int), a = .int .i64 at_ ∧ nn = .int .u64 (n : Int) ∧ n ≤ k ∧ n ≤ 60 ∧ 1000 - n ≤ C ∧ C ≤ 1000 ∧ OnceS w p ph ps sp hp (ro n at_ C) n false [] n wr)
  case atStart => exact ⟨0, rfl, rfl, by omega, 0, 7, 1000, rfl, rfl, by omega, by omega, by omega, by omega, O4.out⟩
  case round =>
    obtain ⟨k, hgh, rfl, hk, n, at_, C, rfl, rfl, hnk, hn60, hC, hC2, O⟩ := hrel
    have OO := Lib.hid O
    clear O
    by_cases hlt : k < fl.length
    · have hltI : (k : Int) < (fl.length : Int) := by omega
      have hwk : IntKind.i64.wrap ((k : Int) + 1) = (k : Int) + 1 := IntWalk.i64_in _ (by omega)
      obtain ⟨x, hx⟩ : ∃ x, fl[k]? = some x := ⟨_, List.getElem?_eq_getElem hlt⟩
      have hxo := HFG.out x (List.mem_of_getElem? hx)
      rcases HF1.out with ⟨_, he⟩ | ⟨g, o, cap', hv, _⟩
      · rw [he] at hlt; simp at hlt
      simp only [Value.slice.injEq] at hv
      obtain ⟨rfl, _, rfl⟩ := hv
      obtain ⟨hc0, hc1, hc2, hc3, hc4, hc5⟩ := (HF1.out.kpNo OO.out.a.kp).act18At hx
      have XO := Lib.hid hxo
      have HLT := Lib.hid (show k + 1 ≤ fl.length by omega)
      clear hx hxo hlt
      obtain ⟨bx, hbx⟩ : ∃ bx, bx = wr.heap.size := ⟨_, rfl⟩
      obtain ⟨wb, hwb⟩ : ∃ wb, wb = wr.alloc (.cells #[.int .u8 (x.k : Int), .int .u8 (x.xk : Int), .int .i64 x.xc, .int .i64 x.xp, .int .u64 (x.n : Int), .slice x.s.A x.s.b.length x.s.c] 53) := ⟨_, rfl⟩
      have OB := Lib.hid (show OnceS w p ph ps sp hp (ro n at_ C) n false [] n wb by rw [hwb]; exact OO.out.no ((Kp.refl No wr).alloc _))
      have BX : Hid (Box18 x bx wb) := Lib.hid (by unfold Box18; rw [hwb, hbx]; exact blk_new wr _)
      obtain ⟨D, hD⟩ : ∃ D, D = layA x.xk x.xc x.xp := ⟨_, rfl⟩
      obtain ⟨E, hE⟩ : ∃ E, E = layAE x.xk x.xc x.xp := ⟨_, rfl⟩
      have HD := Lib.hid hD
      have HE := Lib.hid hE
      clear hD hE
      go_wp2_with fail
      rw [← hwb, ← hbx]
      clear hwb hbx hc0 hc1 hc2 hc3 hc4 hc5
      refine (layAct_any x.xk x.xc x.xp XO.out.2.2.1 wb).mono ?_
      rintro e w6 ⟨v6, rfl, k6⟩
      rw [← HE.out]
      rw [← HD.out] at k6
      obtain ⟨A6, c6, rfl⟩ := k6.own.rd.shape
      have O6 := Lib.hid (OB.out.no k6.kp); have B6 := Lib.hid (BX.out.no k6.kp); have K6 := Lib.hid k6
      clear k6
      by_cases h60 : 60 ≤ k
      · have h60I : (60 : Int) ≤ (k : Int) := by omega
        clear h60
        go_wp2
        go_roundg (fl.length + 1 - (k + 1))
        case measure => omega
        case rel => exact ⟨k + 1, rfl, by go_num, HLT.out, n, at_, C, rfl, rfl, by omega, hn60, hC, hC2, O6.out⟩
      · have h60I : ¬ (60 : Int) ≤ (k : Int) := by omega
        have hkl : k < 60 := by omega
        clear h60
        cases hm : mayA x.xk x.xc x.xp with
        | false =>
          have hE0 : (E != 0) = true := by rw [HE.out]; unfold layAE; rw [hm]; rfl
          clear hm
          go_wp2
          go_roundg (fl.length + 1 - (k + 1))
          case measure => omega
          case rel => exact ⟨k + 1, rfl, by go_num, HLT.out, n, at_, C, rfl, rfl, by omega, hn60, hC, hC2, O6.out⟩
        | true =>
          have hE0 : (E != 0) = false := by rw [HE.out]; unfold layAE; rw [hm]; rfl
          have HM := Lib.hid hm
          have hdl : D.length ≤ 200 := by rw [HD.out]; exact Nat.le_trans (layA_le _ _ _) (by decide)
          have HDX := Lib.hid (show ∀ z ∈ D, z < 256 by rw [HD.out]; exact layA_lt _ _ _)
          have TE := Lib.hid (show tellE n false D = 0 by unfold tellE; rw [if_neg (by decide), if_neg (fun h => by rcases h with h | h <;> omega)])
          obtain ⟨n1, hn1⟩ : ∃ n1, n1 = n + 1 := ⟨_, rfl⟩
          have HN1 := Lib.hid hn1
          have hn1I : IntKind.u64.wrap ((n : Int) + 1) = (n1 : Int) := by rw [IntWalk.u64_in _ (by omega)]; omega
          have hn1J : (n : Int) + 1 = (n1 : Int) := by omega
          obtain ⟨F, hF⟩ : ∃ F, F = pktA n1 x.xk x.xc x.xp := ⟨_, rfl⟩
          have hFl : F.length ≤ 1000000 := by rw [hF]; exact pktA_len _ _ _ _ (by omega)
          have HFX := Lib.hid (show ∀ z ∈ F, z < 256 by rw [hF]; exact pktA_lt _ _ _ _)
          have HPK := Lib.hid (show pktL n true D = F by unfold pktL; rw [if_pos rfl, hF, HD.out, hn1]; rfl)
          obtain ⟨G, hG⟩ : ∃ G, G = layL true n1 [] := ⟨_, rfl⟩
          have hGl : G.length ≤ 1000000 := by rw [hG]; exact Nat.le_trans (layL_len _ _ _ (by omega)) (by decide)
          have HGX := Lib.hid (show ∀ z ∈ G, z < 256 by rw [hG]; exact layL_lt _ _ _)
          have HH1 := Lib.hid (show hearS (ro n at_ C) F = roA n at_ C x.xk x.xc x.xp ∧ hearB (ro n at_ C) F = G by rw [hF, hG, hn1]; exact ro_hear hm hn60)
          have HH2 := Lib.hid (show hearS (roA n at_ C x.xk x.xc x.xp) F = roA n at_ C x.xk x.xc x.xp ∧ hearB (roA n at_ C x.xk x.xc x.xp) F = G by rw [hF, hG, hn1]; exact ro_again hn60)
          have HS1 := Lib.hid (show heardB n true G = true by rw [hG, hn1]; exact (ro_heard (at_ := at_) (C := C) hn60).2)
          have HRO := Lib.hid (ro_ok (n := n) (at_ := at_) (C := C) hn60 (by omega) hC2)
          have HRA := Lib.hid (roA_ok (n := n) (at_ := at_) (C := C) hm hn60 (by omega) hC2)
          have HRP := Lib.hid (rst_p (n := n) (at_ := at_) (C := C) hm hn60 (by omega) hC2)
          have HF := Lib.hid hF; have HG' := Lib.hid hG
          clear hm hn1 hF hG
          obtain ⟨V6, S6⟩ := O6.out.s
          go_wp2_with fail
          refine (tell_any S6 K6.out.own.rd (by omega) HDX.out).mono ?_
          rintro e w7 ⟨rfl, k7, V7, s7, v7⟩
          rw [TE.out] at s7 ⊢
          have s7' : SndS sp n true D V7 w7 := by simpa using s7
          have O7 := Lib.hid (O6.out.snd k7 s7')
          have B7 := Lib.hid (B6.out.kp k7 (Ty.one S6.blk) (by decide))
          have S7 := Lib.hid s7'
          clear k7 s7 s7' v7 S6
          go_wp2_with fail
          refine (packet_any S7.out).mono ?_
          rintro e w8 ⟨v8, rfl, k8⟩
          rw [HPK.out] at k8
          obtain ⟨A8, c8, rfl⟩ := k8.own.rd.shape
          have O8 := Lib.hid (O7.out.no k8.kp); have B8 := Lib.hid (B7.out.no k8.kp); have K8 := Lib.hid k8.own
          clear k8
          go_wp2_with fail
          rw [hm4I]
          obtain ⟨wo, rfl⟩ : ∃ wo : World, wo = wr := ⟨_, rfl⟩
          go_loopg [84] (m4 + 2) (fun g2 jj wx => ∃ j : Nat, g2 = m4 + 2 - j ∧ jj = .int .i64 j ∧ j ≤ m4 + 1 ∧ Box18 x bx wx ∧ Own BK 5 wx (.slice A8 F.length c8) F ∧ (j = 0 → OnceS w p ph ps sp hp (ro n at_ C) n true D n wx) ∧ (0 < j → OnceS w p ph ps sp hp (roA n at_ C x.xk x.xc x.xp) n1 false [] n wx))
          case atStart => exact ⟨0, rfl, rfl, by omega, B8.out, K8.out, fun _ => O8.out, fun h => absurd h (Nat.lt_irrefl _)⟩
          case round =>
            obtain ⟨j, hgj, rfl, hj, bj, kj, o0, o1⟩ := hrel
            have BJ := Lib.hid bj; have KJ := Lib.hid kj; have J0 := Lib.hid o0; have J1 := Lib.hid o1
            clear bj kj o0 o1
            by_cases hjl : j < m4 + 1
            · have hjI : (j : Int) < (m4 : Int) + 1 := by omega
              have hwj : IntKind.i64.wrap ((j : Int) + 1) = (j : Int) + 1 := IntWalk.i64_in _ (by omega)
              by_cases hj0 : j = 0
              · have O := Lib.hid (J0.out hj0)
                have HJ0 := Lib.hid hj0
                clear hj0
                go_wp2_with fail
                refine (hearO O.out.a HRO.out KJ.out.rd hFl HFX.out).mono ?_
                rintro e w9 ⟨v9, rfl, o9, _, a9, r9⟩
                rw [HH1.out.1] at a9
                rw [HH1.out.2] at o9
                obtain ⟨A9, c9, rfl⟩ := o9.rd.shape
                have O9 := Lib.hid (O.out.rob r9 a9); have B9 := Lib.hid (BJ.out.kp r9 O.out.a.ty3 (by decide)); have K9 := Lib.hid (KJ.out.kp r9 (O.out.a.ty3.notO KJ.out (by decide))); have G9 := Lib.hid o9
                clear o9 a9 r9
                obtain ⟨V9, S9⟩ := O9.out.s
                go_wp2_with fail
                refine (shear_any S9 G9.out.rd hGl HGX.out).mono ?_
                rintro e w10 ⟨rfl, k10, s10⟩
                rw [HS1.out] at s10 ⊢
                have s10' : SndS sp n1 false [] (.slice none 0 0) w10 := by rw [HN1.out]; exact s10
                have O10 := Lib.hid (O9.out.snd k10 s10')
                have B10 := Lib.hid (B9.out.kp k10 (Ty.one S9.blk) (by decide)); have K10 := Lib.hid (K9.out.kp k10 ((Ty.one S9.blk).notO K9.out (by decide)))
                clear k10 s10 s10' S9
                go_wp2
                go_roundg (m4 + 2 - (j + 1))
                case measure => omega
                case rel => exact ⟨j + 1, rfl, by go_num, by omega, B10.out, K10.out, fun h => absurd h (by omega), fun _ => O10.out⟩
              · have O := Lib.hid (J1.out (by omega))
                clear hj0
                go_wp2_with fail
                refine (hearO O.out.a HRA.out KJ.out.rd hFl HFX.out).mono ?_
                rintro e w9 ⟨v9, rfl, o9, _, a9, r9⟩
                rw [HH2.out.1] at a9
                rw [HH2.out.2] at o9
                obtain ⟨A9, c9, rfl⟩ := o9.rd.shape
                have O9 := Lib.hid (O.out.rob r9 a9); have B9 := Lib.hid (BJ.out.kp r9 O.out.a.ty3 (by decide)); have K9 := Lib.hid (KJ.out.kp r9 (O.out.a.ty3.notO KJ.out (by decide))); have G9 := Lib.hid o9
                clear o9 a9 r9
                obtain ⟨V9, S9⟩ := O9.out.s
                go_wp2_with fail
                refine (shear_any S9 G9.out.rd hGl HGX.out).mono ?_
                rintro e w10 ⟨rfl, k10, s10⟩
                rw [ro_heard2] at s10 ⊢
                have s10' : SndS sp n1 false [] V9 w10 := s10
                have O10 := Lib.hid (O9.out.snd k10 s10')
                have B10 := Lib.hid (B9.out.kp k10 (Ty.one S9.blk) (by decide)); have K10 := Lib.hid (K9.out.kp k10 ((Ty.one S9.blk).notO K9.out (by decide)))
                clear k10 s10 s10' S9
                go_wp2
                go_roundg (m4 + 2 - (j + 1))
                case measure => omega
                case rel => exact ⟨j + 1, rfl, by go_num, by omega, B10.out, K10.out, fun h => absurd h (by omega), fun _ => O10.out⟩
            · have hjI : ¬ (j : Int) < (m4 : Int) + 1 := by omega
              have ON := Lib.hid (J1.out (by omega))
              clear hjl J0 J1
              obtain ⟨wn, rfl⟩ : ∃ wn : World, wn = wr := ⟨_, rfl⟩
              as_aux_lemma =>
                go_wp2_with fail
                refine (nextA ON.out.a).mono ?_
                rintro e w11 ⟨rfl, k11⟩
                have e1 : actK (roA n at_ C x.xk x.xc x.xp) = x.xk := rfl
                have e2 : actC (roA n at_ C x.xk x.xc x.xp) = x.xc := rfl
                have e3 : actP (roA n at_ C x.xk x.xc x.xp) = x.xp := rfl
                have e4 : (roA n at_ C x.xk x.xc x.xp).act.isSome = true := rfl
                rw [e1, e2, e3, e4]
                clear e1 e2 e3 e4
                obtain ⟨b18, hb18⟩ : ∃ b18, b18 = w11.heap.size := ⟨_, rfl⟩
                have O11 := Lib.hid (ON.out.no (k11.alloc (.cells #[.int .u8 (x.xk : Int), .int .i64 x.xc, .int .i64 x.xp] 32)))
                have B11 := Lib.hid (BJ.out.no (k11.alloc (.cells #[.int .u8 (x.xk : Int), .int .i64 x.xc, .int .i64 x.xp] 32)))
                have q1 : (w11.alloc (.cells #[.int .u8 (x.xk : Int), .int .i64 x.xc, .int .i64 x.xp] 32)).cell? ⟨bx, 1, none⟩ = some (.int .u8 (x.xk : Int)) := (blk_cell B11.out 1).trans rfl
                have q2 : (w11.alloc (.cells #[.int .u8 (x.xk : Int), .int .i64 x.xc, .int .i64 x.xp] 32)).cell? ⟨bx, 2, none⟩ = some (.int .i64 x.xc) := (blk_cell B11.out 2).trans rfl
                have q3 : (w11.alloc (.cells #[.int .u8 (x.xk : Int), .int .i64 x.xc, .int .i64 x.xp] 32)).cell? ⟨bx, 3, none⟩ = some (.int .i64 x.xp) := (blk_cell B11.out 3).trans rfl
                have ng := fun (w' : World) => neqActO (x.xk : Int) x.xc x.xp w'
                obtain ⟨V11, S11⟩ := O11.out.s
                clear k11
                go_wp2_with fail
                refine (told_any S11).mono ?_
                rintro e wz ⟨rfl, rfl⟩
                clear S11 hb18
                obtain ⟨w12, hw12⟩ : ∃ w12, w12 = w11.alloc (.cells #[.int .u8 (x.xk : Int), .int .i64 x.xc, .int .i64 x.xp] 32) := ⟨_, rfl⟩
                rw [← hw12] at O11 B11 q1 q2 q3
                rw [← hw12]
                clear hw12
                obtain ⟨st, hst⟩ : ∃ st, st = if x.xk = 1 then 2 else 1 := ⟨_, rfl⟩
                obtain ⟨at2, hat2⟩ : ∃ at2, at2 = if x.xk = 1 then x.xc else at_ := ⟨_, rfl⟩
                obtain ⟨C2, hC2e⟩ : ∃ C2 : Int, C2 = if x.xk = 1 then (if x.xc = 7 then 1000 else C - 1) else C := ⟨_, rfl⟩
                have RP : Hid (RstP n at_ C x.xk x.xc x.xp at2 C2 st) := Lib.hid (by rw [hst, hat2, hC2e]; exact HRP.out)
                have HST := Lib.hid hst; have HAT := Lib.hid hat2
                have hCn : 1000 - (n : Int) - 1 ≤ C2 ∧ C2 ≤ 1000 := by
                  rw [hC2e]
                  split
                  · split <;> omega
                  · omega
                have HCN := Lib.hid hCn
                clear hst hat2 hC2e hCn
                go_upto_if 115 with fail
                go_cut [10, 20, 114, 115] (fun a s _ _ wx => a = .int .i64 at2 ∧ s = .int .i64 (st : Int) ∧ wx = w12)
                case first =>
                  by_cases hk1 : x.xk = 1
                  · have hk1b : ((x.xk : Int) == 1) = true := by simp [hk1]
                    have h1 : at2 = x.xc := by rw [HAT.out, if_pos hk1]
                    have h2 : st = 2 := by rw [HST.out, if_pos hk1]
                    have HH := Lib.hid h1; have HH2' := Lib.hid h2
                    clear hk1 h1 h2
                    go_wp2_with fail
                    go_meet
                    exact ⟨by rw [HH.out], by rw [HH2'.out]; rfl, rfl⟩
                  · have hk1b : ((x.xk : Int) == 1) = false := by simp; omega
                    have h1 : at2 = at_ := by rw [HAT.out, if_neg hk1]
                    have h2 : st = 1 := by rw [HST.out, if_neg hk1]
                    have HH := Lib.hid h1; have HH2' := Lib.hid h2
                    clear hk1 h1 h2
                    go_wp2_with fail
                    go_meet
                    exact ⟨by rw [HH.out], by rw [HH2'.out]; rfl, rfl⟩
                case rest =>
                  obtain ⟨rfl, rfl, rfl⟩ := hcut
                  clear q1 q2 q3 ng
                  have hst2 : st ≤ 2 := by rcases RP.out.est with h | h <;> omega
                  have hst1 : 1 ≤ st := by rcases RP.out.est with h | h <;> omega
                  have hws : IntKind.i64.wrap ((st : Int) - 1) = (st : Int) - 1 := IntWalk.i64_in _ (by omega)
                  go_wp2_with fail
                  go_loopg [120] (st + 1) (fun g2 jj wx => ∃ j : Nat, g2 = st + 1 - j ∧ jj = .int .i64 j ∧ j ≤ st ∧ OnceS w p ph ps sp hp (rst n at_ C x.xk x.xc x.xp at2 C2 st j) n1 false [] n wx)
                  case atStart => exact ⟨0, rfl, rfl, by omega, O11.out⟩
                  case round =>
                    obtain ⟨j2, hgj2, rfl, hj2, o⟩ := hrel
                    have OJ := Lib.hid o
                    clear o
                    by_cases hjl : j2 < st
                    · have hjI : (j2 : Int) < (st : Int) := by omega
                      have hwj : IntKind.i64.wrap ((j2 : Int) + 1) = (j2 : Int) + 1 := IntWalk.i64_in _ (by omega)
                      have RN := Lib.hid (RP.out.next j2 hjl)
                      have ROK := Lib.hid (RP.out.ok j2 hjl)
                      obtain ⟨sb, hsb⟩ : ∃ sb, sb = decide (j2 + 1 = st) := ⟨_, rfl⟩
                      have hsb2 : ((j2 : Int) == (st : Int) - 1) = sb := by
                        rw [hsb]
                        by_cases z : j2 + 1 = st
                        · rw [decide_eq_true z]; simp; omega
                        · rw [decide_eq_false z]; simp; omega
                      have HSB := Lib.hid hsb
                      clear hsb hjl
                      go_wp2_with fail
                      refine (stepO OJ.out.a ROK.out).mono ?_
                      rintro e w13 ⟨rfl, a13, r13⟩
                      rw [RN.out.1] at a13
                      rw [RN.out.2, ← HSB.out]
                      have O13 := Lib.hid (OJ.out.rob r13 a13)
                      clear a13 r13
                      have hsn : (sb != sb) = false := by cases sb <;> rfl
                      go_wp2
                      go_roundg (st + 1 - (j2 + 1))
                      case measure => omega
                      case rel => exact ⟨j2 + 1, rfl, by go_num, by omega, O13.out⟩
                    · obtain rfl : j2 = st := by omega
                      have hjI : ¬ (j2 : Int) < (j2 : Int) := by omega
                      have OD : Hid (OnceS w p ph ps sp hp (roD n at2 C2) n1 false [] n wr) := Lib.hid (by rw [← RP.out.last]; exact OJ.out)
                      clear hjl OJ
                      obtain ⟨wq, rfl⟩ : ∃ wq : World, wq = wr := ⟨_, rfl⟩
                      as_aux_lemma =>
                        obtain ⟨Q, hQ⟩ : ∃ Q, Q = layL false n1 [] := ⟨_, rfl⟩
                        have hQl : Q.length ≤ 1000000 := by rw [hQ]; exact Nat.le_trans (layL_len _ _ _ (by have := HN1.out; omega)) (by decide)
                        have HQX := Lib.hid (show ∀ z ∈ Q, z < 256 by rw [hQ]; exact layL_lt _ _ _)
                        have HPQ := Lib.hid (show pktL n true [] = Q by unfold pktL; rw [if_pos rfl, hQ, HN1.out])
                        have HR1 := Lib.hid (show freshB n Q = true ∧ ackB n Q = true ∧ tkN Q = n1 ∧ nxt n = n1 by rw [hQ, HN1.out]; exact rcv_first hn60)
                        have HR2 := Lib.hid (show freshB n1 Q = false ∧ ackB n1 Q = true by rw [hQ, HN1.out]; exact rcv_again hn60)
                        have HRD := Lib.hid (show heardS (roD n at2 C2) G = roE n at2 C2 ∧ heardB n true G = true by rw [HG'.out, HN1.out]; exact ro_heard hn60)
                        have hnm : IntKind.u64.wrap ((n1 : Int) - 1) = (n : Int) := by rw [IntWalk.u64_in _ (by have := HN1.out; omega)]; have := HN1.out; omega
                        have hnm2 : (n1 : Int) - 1 = (n : Int) := by have := HN1.out; omega
                        have hne : ((n1 : Int) == (n : Int)) = false := by have := HN1.out; simp; omega
                        clear hQ
                        go_wp2_with fail
                        refine (packetA OD.out.a).mono ?_
                        rintro e w14 ⟨v14, rfl, k14⟩
                        have e1 : (roD n at2 C2).on = true := rfl
                        have k14' : NewS BK 5 wq w14 v14 Q := by rw [← HPQ.out]; exact k14
                        rw [e1]
                        obtain ⟨A14, c14, rfl⟩ := k14'.own.rd.shape
                        have O14 := Lib.hid (OD.out.no k14'.kp); have K14 := Lib.hid k14'.own
                        clear k14 k14' e1
                        go_wp2_with fail
                        try rw [hm4I]
                        go_loopg [142] (m4 + 2) (fun g2 jj wx => ∃ j : Nat, g2 = m4 + 2 - j ∧ jj = .int .i64 j ∧ j ≤ m4 + 1 ∧ Own BK 5 wx (.slice A14 Q.length c14) Q ∧ (j = 0 → OnceS w p ph ps sp hp (roD n at2 C2) n1 false [] n wx) ∧ (0 < j → OnceS w p ph ps sp hp (roE n at2 C2) n1 false [] n1 wx))
                        case atStart => exact ⟨0, rfl, rfl, by omega, K14.out, fun _ => O14.out, fun h => absurd h (Nat.lt_irrefl _)⟩
                        case round =>
                          obtain ⟨j3, hgj3, rfl, hj3, kj, o0, o1⟩ := hrel
                          have KJ3 := Lib.hid kj; have J0 := Lib.hid o0; have J1 := Lib.hid o1
                          clear kj o0 o1
                          by_cases hjl : j3 < m4 + 1
                          · have hjI2 : (j3 : Int) < (m4 : Int) + 1 := by omega
                            have hwj : IntKind.i64.wrap ((j3 : Int) + 1) = (j3 : Int) + 1 := IntWalk.i64_in _ (by omega)
                            by_cases hj0 : j3 = 0
                            · have O := Lib.hid (J0.out hj0)
                              clear hj0
                              go_wp2_with fail
                              refine (heard_any O.out.h).mono ?_
                              rintro e wz ⟨rfl, rfl⟩
                              go_wp2_with fail
                              refine (rhear_any O.out.h KJ3.out.rd hQl HQX.out).mono ?_
                              rintro e w15 ⟨va, vb, rfl, k15, r15, oa, ob, ga, gb⟩
                              rw [HR1.out.1] at r15 oa ⊢
                              rw [if_pos rfl, HR1.out.2.2.2] at r15
                              rw [HR1.out.2.1, if_pos rfl, HR1.out.2.2.1, ← HG'.out] at ob
                              obtain ⟨Aa, ca, rfl⟩ := oa.rd.shape
                              obtain ⟨Ab, cb, rfl⟩ := ob.rd.shape
                              have O15 := Lib.hid (O.out.rcv k15 r15); have K15 := Lib.hid (KJ3.out.kp k15 ((Ty.one O.out.h.blk).notO KJ3.out (by decide))); have G15 := Lib.hid ob
                              clear k15 r15 oa ob ga gb
                              go_wp2_with fail
                              refine (heardO O15.out.a G15.out.rd hGl HGX.out).mono ?_
                              rintro e w16 ⟨rfl, a16, r16⟩
                              rw [HRD.out.1] at a16
                              have O16 := Lib.hid (O15.out.rob r16 a16); have K16 := Lib.hid (K15.out.kp r16 (O15.out.a.ty3.notO K15.out (by decide)))
                              clear a16 r16
                              go_wp2
                              go_roundg (m4 + 2 - (j3 + 1))
                              case measure => omega
                              case rel => exact ⟨j3 + 1, rfl, by go_num, by omega, K16.out, fun h => absurd h (by omega), fun _ => O16.out⟩
                            · have O := Lib.hid (J1.out (by omega))
                              clear hj0
                              go_wp2_with fail
                              refine (heard_any O.out.h).mono ?_
                              rintro e wz ⟨rfl, rfl⟩
                              go_wp2_with fail
                              refine (rhear_any O.out.h KJ3.out.rd hQl HQX.out).mono ?_
                              rintro e w15 ⟨va, vb, rfl, k15, r15, oa, ob, ga, gb⟩
                              rw [HR2.out.1] at r15 oa ⊢
                              rw [if_neg (by decide)] at r15
                              rw [HR2.out.2, if_pos rfl, HR1.out.2.2.1, ← HG'.out] at ob
                              obtain ⟨Aa, ca, rfl⟩ := oa.rd.shape
                              obtain ⟨Ab, cb, rfl⟩ := ob.rd.shape
                              have O15 := Lib.hid (O.out.rcv k15 r15); have K15 := Lib.hid (KJ3.out.kp k15 ((Ty.one O.out.h.blk).notO KJ3.out (by decide))); have G15 := Lib.hid ob
                              clear k15 r15 oa ob ga gb
                              go_wp2_with fail
                              refine (heardO O15.out.a G15.out.rd hGl HGX.out).mono ?_
                              rintro e w16 ⟨rfl, a16, r16⟩
                              rw [roE_heard] at a16
                              have O16 := Lib.hid (O15.out.rob r16 a16); have K16 := Lib.hid (K15.out.kp r16 (O15.out.a.ty3.notO K15.out (by decide)))
                              clear a16 r16
                              go_wp2
                              go_roundg (m4 + 2 - (j3 + 1))
                              case measure => omega
                              case rel => exact ⟨j3 + 1, rfl, by go_num, by omega, K16.out, fun h => absurd h (by omega), fun _ => O16.out⟩
                          · have hjI2 : ¬ (j3 : Int) < (m4 : Int) + 1 := by omega
                            have OE := Lib.hid (J1.out (by omega))
                            clear hjl J0 J1 hne
                            go_wp2_with fail
                            refine (packetA OE.out.a).mono ?_
                            rintro e w17 ⟨v17, rfl, k17⟩
                            have e1 : (roE n at2 C2).on = false := rfl
                            rw [e1]
                            obtain ⟨A17, c17, rfl⟩ := k17.own.rd.shape
                            have O17 := Lib.hid (OE.out.no k17.kp)
                            clear k17 e1
                            go_wp2_with fail
                            refine (doneA O17.out.a).mono ?_
                            rintro e wz ⟨rfl, rfl⟩
                            have e2 : (roE n at2 C2).done = n1 := by rw [HN1.out]; rfl
                            rw [e2]
                            clear e2
                            go_wp2_with fail
                            refine (heard_any O17.out.h).mono ?_
                            rintro e wz ⟨rfl, rfl⟩
                            go_wp2_with fail
                            refine (cellsA O17.out.a).mono ?_
                            rintro e w18 ⟨v18, rfl, k18⟩
                            have k18' : NewS IK 3 w17 w18 v18 [at2] := k18
                            obtain ⟨A18', c18, rfl⟩ := k18'.own.rd.shape
                            have O18 := Lib.hid (O17.out.no k18'.kp); have K18 := Lib.hid k18'.own
                            clear k18 k18'
                            go_wp2_with fail
                            refine (sameInts_any (a := [at2]) (b := [at2]) (K18.out.alloc _).rd (ints_lit w18 _ [at2] rfl (by simp) 1 rfl) true (by simp)).mono ?_
                            rintro e w19 ⟨rfl, k19⟩
                            have O19 := Lib.hid ((O18.out.no ((Kp.refl No w18).alloc (.cells #[.int .i64 at2] 3))).no k19)
                            clear k19
                            go_wp2
                            go_roundg (fl.length + 1 - (k + 1))
                            case measure => omega
                            case rel =>
                              have hE : roE n at2 C2 = ro n1 at2 C2 := by rw [HN1.out]; rfl
                              have h1 := HCN.out; have h2 := HN1.out
                              exact ⟨k + 1, rfl, by go_num, HLT.out, n1, at2, C2, rfl, rfl, by omega, by omega, by omega, h1.2, by rw [← hE]; exact O19.out⟩
    · obtain rfl : k = fl.length := by omega
      have hd0 : ¬ (fl.length : Int) < (fl.length : Int) := by omega
      clear hlt
      go_wp2_with fail
      refine (doneA OO.out.a).mono ?_
      rintro e wz ⟨rfl, rfl⟩
      have e1 : (ro n at_ C).done = n := rfl
      rw [e1]
      go_wp2
      go_ret
      exact ⟨rfl, OO.out.a.kp⟩
end Go.Proofs.Ytbafdfkmakehnaa

namespace Go.Proofs.Ytbafdfkmakehnaa
set_option linter.unusedVariables false
set_option linter.unusedSimpArgs false
open Go.ChangeShapes Go.WideShapes Go.ChangeAt Go.RowKit Go.Joins
theorem robonce_row {w : World} {v : Value} {l : List A18} (hv : Rd AK18 w v l) (hg : ∀ x ∈ l, x.ok w) (y : Int) (hy : (Lit.int .u8 y).wf = true) : Calls Try.prog 7 #[v, .int .u8 y] w (LawR w) := by
  have b2 := bounds_u8 hy
  obtain ⟨z, rfl⟩ : ∃ z : Nat, y = (z : Int) := ⟨y.toNat, by omega⟩
  exact robonce_any hv hg z (by omega)
end Go.Proofs.Ytbafdfkmakehnaa
