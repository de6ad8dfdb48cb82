/- carfaxref17: TakeAct; robots, as the laws use them: the state alone; robots: what packets do; the document's examples; Arguments that are slices of rows: what they read as. No function of the program; Arguments: bytes, packets; Slices of bytes in rows; Acts of carfaxlaw18: arguments, few; RobotStays: plain; RobotStays: the walk; RobotStays: the row's walk. No condition. -/
import Derived.Test.YtbafdfkmakehnaaM5
import Derived.Test.YtbafdfkmakehnaaM2
import Derived.Test.YtbafdfkmakehnaaM3
import Derived.Test.YtbafdfkmakehnaaM1
import Derived.Deep.Slices
import Derived.ProofKit
import Derived.OpenShut
import Derived.Lib.SmallJoins
import Derived.Deep.LoopGhost
import Derived.Deep.CutBlock
import Derived.Deep.DeepCutAuto
import Derived.Deep.Cut
import Derived.Deep.CutRange

namespace Go.Proofs.Ytbafdfkmakehnaa
set_option linter.unusedVariables false
set_option linter.unusedSimpArgs false
open Go.RowKit

set_option maxHeartbeats 1000000 in
set_option maxRecDepth 100000 in
theorem rtakeA_any {w : World} {v : Value} {B : List Nat} (h : Rd BK w v B) (hB : B.length ≤ 100000) (hx : ∀ x ∈ B, x < 256) : Calls Try.prog 51 #[v] w (TakeAR B w) := by
  obtain ⟨A, cap, rfl⟩ := h.shape
  obtain ⟨L, hL⟩ : ∃ L, L = unpackB B := ⟨_, rfl⟩
  obtain ⟨n1, hn1⟩ : ∃ n1, n1 = rgetN L 0 0 2 := ⟨_, rfl⟩
  obtain ⟨f1, hf1⟩ : ∃ f1, f1 = rgetF L 0 0 2 := ⟨_, rfl⟩
  obtain ⟨k, hk⟩ : ∃ k, k = rgetV L 0 0 2 := ⟨_, rfl⟩
  obtain ⟨n2, hn2⟩ : ∃ n2, n2 = rgetN L n1 f1 8 := ⟨_, rfl⟩
  obtain ⟨f2, hf2⟩ : ∃ f2, f2 = rgetF L n1 f1 8 := ⟨_, rfl⟩
  obtain ⟨c, hc⟩ : ∃ c, c = rgetV L n1 f1 8 := ⟨_, rfl⟩
  obtain ⟨n3, hn3⟩ : ∃ n3, n3 = rgetN L n2 f2 6 := ⟨_, rfl⟩
  obtain ⟨f3, hf3⟩ : ∃ f3, f3 = rgetF L n2 f2 6 := ⟨_, rfl⟩
  obtain ⟨p, hp⟩ : ∃ p, p = rgetV L n2 f2 6 := ⟨_, rfl⟩
  have T : TaV L n1 f1 n2 f2 n3 f3 k c p := ⟨hn1, hf1, hk, hn2, hf2, hc, hn3, hf3, hp⟩
  rw [hL] at T
  have hkl : k < 4 := by rw [hk]; exact rgetV_lt _ _ _ _
  have hcl : c < 256 := by rw [hc]; exact rgetV_lt _ _ _ _
  have hpl : p < 64 := by rw [hp]; exact rgetV_lt _ _ _ _
  have hl : L.length = 8 * B.length := by rw [hL]; exact unpackB_len B
  have hL8 : L.length ≤ 8000000 := by omega
  have hb1 : n1 ≤ L.length := by rw [hn1]; exact rgetN_le _ _ _ _ (by omega)
  have hb2 : n2 ≤ L.length := by rw [hn2]; exact rgetN_le _ _ _ _ (by omega)
  have HT := Lib.hid T
  have HL := Lib.hid hL
  have HN1 := Lib.hid hn1; have HF1 := Lib.hid hf1; have HK := Lib.hid hk; have HN2 := Lib.hid hn2; have HF2 := Lib.hid hf2; have HC := Lib.hid hc; have HN3 := Lib.hid hn3; have HF3 := Lib.hid hf3; have HP := Lib.hid hp
  have H := Lib.hid h; have HX := Lib.hid hx
  have i1 : (k : Int) < 256 := by omega
  have i2 : (c : Int) < 256 := by omega
  have i3 : (p : Int) < 64 := by omega
  obtain ⟨Y, hY⟩ : ∃ Y, Y = layA k (c : Int) (p : Int) := ⟨_, rfl⟩
  obtain ⟨E, hE⟩ : ∃ E, E = layAE k (c : Int) (p : Int) := ⟨_, rfl⟩
  have hcase : ((E != 0) = true ∧ tkaOk B = false) ∨ ((E != 0) = false ∧ Y ≠ B ∧ tkaOk B = false) ∨ ((E != 0) = false ∧ Y = B ∧ tkaOk B = true ∧ k = aK B ∧ c = aC B ∧ p = aP B) := by
    cases hm : mayA k (c : Int) (p : Int)
    · refine .inl ⟨by rw [hE]; unfold layAE; rw [hm]; rfl, ?_⟩
      unfold tkaOk
      by_cases hB2 : B.length = 2
      · obtain ⟨t1, t2, t3, _⟩ := T.two hB2
        rw [← t1, ← t2, ← t3, hm]; simp
      · simp [hB2]
    · have he : (E != 0) = false := by rw [hE]; unfold layAE; rw [hm]; rfl
      by_cases hB2 : B.length = 2
      · obtain ⟨t1, t2, t3, _⟩ := T.two hB2
        have ho : tkaOk B = true := by unfold tkaOk; rw [← t1, ← t2, ← t3, hm, hB2]; rfl
        exact .inr (.inr ⟨he, by rw [hY, t1, t2, t3]; exact lay_take hx ho, ho, t1, t2, t3⟩)
      · refine .inr (.inl ⟨he, fun e => hB2 ?_, by unfold tkaOk; simp [hB2]⟩)
        rw [← e, hY]; exact layA_len hm
  have HY := Lib.hid hY; have HE := Lib.hid hE
  have HYX := Lib.hid (show ∀ x ∈ Y, x < 256 by rw [hY]; exact layA_lt _ _ _)
  clear T h hx hl hL hn1 hf1 hk hn2 hf2 hc hn3 hf3 hp hY hE HT
  rcases hcase with ⟨hE1, hok⟩ | ⟨hE1, hne, hok⟩ | ⟨hE1, hYB, hok, t1, t2, t3⟩
  · have ERR : Hid (∀ w', Kp No w w' → TakeAR B w (.returned (.tuple #[.agg #[.int .u8 0, .int .i64 0, .int .i64 0], .int .i64 170])) w') := Lib.hid fun w' hk => by
      unfold TakeAR tkaK tkaC tkaP tkaE
      rw [hok]; exact ⟨rfl, hk⟩
    clear hok
    go_enter Try.func51, Try.ntmps51
    go_wp2_with fail
    refine (rof_any (H.out.kpNo ((Kp.refl No w).alloc _)) hB HX.out).mono ?_
    rintro e w1 ⟨q, rfl, V, a1⟩
    rw [← HL.out] at a1
    obtain ⟨br, hbr⟩ : ∃ br, br = w.heap.size := ⟨_, rfl⟩
    have R1 := Lib.hid (show w1.heap[br]? = some (.cells #[.int .u8 0, .int .i64 0, .int .i64 0] 32 (0, 0)) by rw [hbr]; exact a1.kp.blk (blk_new w _) (no_no _))
    have A1 := Lib.hid a1.at; have K1 := Lib.hid (show Kp No w w1 from ((Kp.refl No w).alloc _).trans a1.kp)
    have G1 := Lib.hid (show br < q by rw [hbr]; have := a1.po; simp at this; omega)
    have L1 := Lib.hid (show q < w1.heap.size from lt_of_block a1.blk)
    have VO := Lib.hid (show ∀ g, V.ownBlock = some g → br < g ∧ g < w1.heap.size from fun g hg => ⟨by have := a1.vo g hg; rw [hbr]; simp at this; omega, a1.own.lt hg⟩)
    have HBR := Lib.hid hbr
    rw [← hbr]
    clear a1 hbr
    go_wp2_with fail
    refine (qget_any A1.out hL8 (Nat.zero_le _) 2 (by decide) _ rfl).mono ?_
    rintro e w2 ⟨rfl, a2⟩
    rw [← HN1.out, ← HF1.out] at a2
    rw [← HK.out]
    have A2 := Lib.hid a2.here
    have R2 := Lib.hid (a2.kp.blk R1.out (fun e => by have e : br = q := e; have := G1.out; omega))
    have K2 := Lib.hid (K1.out.newer a2.kp (by have := G1.out; have := HBR.out; omega))
    have Z2 := Lib.hid (Nat.lt_of_lt_of_le L1.out a2.kp.size)
    have ZV := Lib.hid (show ∀ g, V.ownBlock = some g → br < g ∧ g < w2.heap.size from fun g hg => ⟨(VO.out g hg).1, Nat.lt_of_lt_of_le (VO.out g hg).2 a2.kp.size⟩)
    obtain ⟨bx, hbx⟩ : ∃ bx, bx = w2.heap.size := ⟨_, rfl⟩
    have HBX := Lib.hid hbx
    have hbrx : br < bx := by have := G1.out; have := Z2.out; omega
    clear a2
    go_wp2_with fail
    refine (qget_any (A2.out.kpNo ((Kp.refl No w2).alloc (.cells #[.int .u8 (k : Int), .int .i64 0, .int .i64 0] 32))).here hL8 hb1 8 (by decide) _ rfl).mono ?_
    rintro e w3 ⟨rfl, a3⟩
    rw [← HN2.out, ← HF2.out] at a3
    rw [← HC.out, ← hbx]
    have X3 := Lib.hid (show w3.heap[bx]? = some (.cells #[.int .u8 (k : Int), .int .i64 0, .int .i64 0] 32 (0, 0)) by rw [hbx]; exact a3.kp.blk (blk_new w2 _) (fun e => by have e : w2.heap.size = q := e; have := Z2.out; omega))
    have R3 := Lib.hid (a3.kp.blk (blk_alloc R2.out _) (fun e => by have e : br = q := e; have := G1.out; omega))
    have A3 := Lib.hid a3.here
    have K3 := Lib.hid ((K2.out.alloc _).newer a3.kp (by have := G1.out; have := HBR.out; omega))
    have y1 : w3.cell? ⟨bx, 1, none⟩ = some (.int .i64 0) := (blk_cell X3.out 1).trans rfl
    have y1f : w3.frozen? ⟨bx, 1, none⟩ = false := blk_free X3.out 1
    have NQ := Lib.hid (show ¬ (q = bx) by have := Z2.out; omega)
    have NV := Lib.hid (show ∀ g, V.ownBlock = some g → ¬ (g = bx) from fun g hg e => by have := (ZV.out g hg).2; omega)
    clear a3 hbx
    go_wp2_with fail
    refine (qget_any (A3.out.far (Kp.one (p := bx) 1 (.int .i64 (c : Int))) NQ.out NV.out) hL8 hb2 6 (by decide) _ rfl).mono ?_
    rintro e w4 ⟨rfl, a4⟩
    rw [← HN3.out, ← HF3.out] at a4
    rw [← HP.out]
    have X4 := Lib.hid (show w4.heap[bx]? = some (.cells #[.int .u8 (k : Int), .int .i64 (c : Int), .int .i64 0] 32 (0, 0)) from a4.kp.blk ((blk_set X3.out 1 _).trans rfl) (fun e => NQ.out e.symm))
    have R4 := Lib.hid (a4.kp.blk (blk_far R3.out (p := ⟨bx, 1, none⟩) (by show br ≠ bx; omega) (.int .i64 (c : Int))) (fun e => by have e : br = q := e; have := G1.out; omega))
    have K4 := Lib.hid ((K3.out.newer (Kp.one (p := bx) 1 (.int .i64 (c : Int))) (by have := HBR.out; omega)).newer a4.kp (by have := G1.out; have := HBR.out; omega))
    have y2 : w4.cell? ⟨bx, 2, none⟩ = some (.int .i64 0) := (blk_cell X4.out 2).trans rfl
    have y2f : w4.frozen? ⟨bx, 2, none⟩ = false := blk_free X4.out 2
    clear a4
    have X4s := blk_set X4.out 2 (.int .i64 (p : Int))
    have z0 : (w4.setCell ⟨bx, 2, none⟩ (.int .i64 (p : Int))).cell? ⟨bx, 0, none⟩ = some (.int .u8 (k : Int)) := (blk_cell X4s 0).trans rfl
    have z1 : (w4.setCell ⟨bx, 2, none⟩ (.int .i64 (p : Int))).cell? ⟨bx, 1, none⟩ = some (.int .i64 (c : Int)) := (blk_cell X4s 1).trans rfl
    have z2 : (w4.setCell ⟨bx, 2, none⟩ (.int .i64 (p : Int))).cell? ⟨bx, 2, none⟩ = some (.int .i64 (p : Int)) := (blk_cell X4s 2).trans rfl
    clear X4s
    go_wp2_with fail
    refine (layAct_any k (c : Int) (p : Int) (by omega) _).mono ?_
    rintro e w7 ⟨v7, rfl, k7⟩
    rw [← HE.out]
    rw [← HY.out] at k7
    obtain ⟨A7, c7, rfl⟩ := k7.own.rd.shape
    have X7 := Lib.hid (show w7.heap[bx]? = some (.cells #[.int .u8 (k : Int), .int .i64 (c : Int), .int .i64 (p : Int)] 32 (0, 0)) from k7.kp.blk ((blk_set X4.out 2 _).trans rfl) (no_no _))
    have R7 := Lib.hid (k7.kp.blk (blk_far R4.out (p := ⟨bx, 2, none⟩) (by show br ≠ bx; omega) (.int .i64 (p : Int))) (no_no _))
    have K7 := Lib.hid ((K4.out.newer (Kp.one (p := bx) 2 (.int .i64 (p : Int))) (by have := HBR.out; omega)).trans k7.kp)
    have s1 := k7.own.rd.str
    have s2 := (H.out.kpNo K7.out).str
    clear k7
    have u0 : w7.cell? ⟨br, 0, none⟩ = some (.int .u8 0) := (blk_cell R7.out 0).trans rfl
    have u1 : w7.cell? ⟨br, 1, none⟩ = some (.int .i64 0) := (blk_cell R7.out 1).trans rfl
    have u2 : w7.cell? ⟨br, 2, none⟩ = some (.int .i64 0) := (blk_cell R7.out 2).trans rfl
    have v0 : w7.frozen? ⟨br, 0, none⟩ = false := blk_free R7.out 0
    have v1 : w7.frozen? ⟨br, 1, none⟩ = false := blk_free R7.out 1
    have v2 : w7.frozen? ⟨br, 2, none⟩ = false := blk_free R7.out 2
    go_wp2
    have bE := blk_set (blk_set (blk_set R7.out 0 (.int .u8 0)) 1 (.int .i64 0)) 2 (.int .i64 0)
    have r0 := (blk_cell bE 0).trans rfl
    have r1 := (blk_cell bE 1).trans rfl
    have r2 := (blk_cell bE 2).trans rfl
    have kE := ((K7.out.newer (Kp.one (w := w7) (p := br) 0 (.int .u8 0)) (by have := HBR.out; omega)).newer (Kp.one (p := br) 1 (.int .i64 0)) (by have := HBR.out; omega)).newer (Kp.one (p := br) 2 (.int .i64 0)) (by have := HBR.out; omega)
    exact bodyPost_ret (v := .tuple #[.agg #[.int .u8 0, .int .i64 0, .int .i64 0], .int .i64 170]) (by simp [results, Try.results51, go_sem, r0, r1, r2]) rfl (ERR.out _ kE)
  · have sb := strB_beq HYX.out HX.out
    rw [decide_eq_false hne] at sb
    have sn : ((strB Y).toList != (strB B).toList) = true := by rw [bne, sb]; rfl
    have ERR : Hid (∀ w', Kp No w w' → TakeAR B w (.returned (.tuple #[.agg #[.int .u8 0, .int .i64 0, .int .i64 0], .int .i64 170])) w') := Lib.hid fun w' hk => by
      unfold TakeAR tkaK tkaC tkaP tkaE
      rw [hok]; exact ⟨rfl, hk⟩
    clear hok
    clear hne
    go_enter Try.func51, Try.ntmps51
    go_wp2_with fail
    refine (rof_any (H.out.kpNo ((Kp.refl No w).alloc _)) hB HX.out).mono ?_
    rintro e w1 ⟨q, rfl, V, a1⟩
    rw [← HL.out] at a1
    obtain ⟨br, hbr⟩ : ∃ br, br = w.heap.size := ⟨_, rfl⟩
    have R1 := Lib.hid (show w1.heap[br]? = some (.cells #[.int .u8 0, .int .i64 0, .int .i64 0] 32 (0, 0)) by rw [hbr]; exact a1.kp.blk (blk_new w _) (no_no _))
    have A1 := Lib.hid a1.at; have K1 := Lib.hid (show Kp No w w1 from ((Kp.refl No w).alloc _).trans a1.kp)
    have G1 := Lib.hid (show br < q by rw [hbr]; have := a1.po; simp at this; omega)
    have L1 := Lib.hid (show q < w1.heap.size from lt_of_block a1.blk)
    have VO := Lib.hid (show ∀ g, V.ownBlock = some g → br < g ∧ g < w1.heap.size from fun g hg => ⟨by have := a1.vo g hg; rw [hbr]; simp at this; omega, a1.own.lt hg⟩)
    have HBR := Lib.hid hbr
    rw [← hbr]
    clear a1 hbr
    go_wp2_with fail
    refine (qget_any A1.out hL8 (Nat.zero_le _) 2 (by decide) _ rfl).mono ?_
    rintro e w2 ⟨rfl, a2⟩
    rw [← HN1.out, ← HF1.out] at a2
    rw [← HK.out]
    have A2 := Lib.hid a2.here
    have R2 := Lib.hid (a2.kp.blk R1.out (fun e => by have e : br = q := e; have := G1.out; omega))
    have K2 := Lib.hid (K1.out.newer a2.kp (by have := G1.out; have := HBR.out; omega))
    have Z2 := Lib.hid (Nat.lt_of_lt_of_le L1.out a2.kp.size)
    have ZV := Lib.hid (show ∀ g, V.ownBlock = some g → br < g ∧ g < w2.heap.size from fun g hg => ⟨(VO.out g hg).1, Nat.lt_of_lt_of_le (VO.out g hg).2 a2.kp.size⟩)
    obtain ⟨bx, hbx⟩ : ∃ bx, bx = w2.heap.size := ⟨_, rfl⟩
    have HBX := Lib.hid hbx
    have hbrx : br < bx := by have := G1.out; have := Z2.out; omega
    clear a2
    go_wp2_with fail
    refine (qget_any (A2.out.kpNo ((Kp.refl No w2).alloc (.cells #[.int .u8 (k : Int), .int .i64 0, .int .i64 0] 32))).here hL8 hb1 8 (by decide) _ rfl).mono ?_
    rintro e w3 ⟨rfl, a3⟩
    rw [← HN2.out, ← HF2.out] at a3
    rw [← HC.out, ← hbx]
    have X3 := Lib.hid (show w3.heap[bx]? = some (.cells #[.int .u8 (k : Int), .int .i64 0, .int .i64 0] 32 (0, 0)) by rw [hbx]; exact a3.kp.blk (blk_new w2 _) (fun e => by have e : w2.heap.size = q := e; have := Z2.out; omega))
    have R3 := Lib.hid (a3.kp.blk (blk_alloc R2.out _) (fun e => by have e : br = q := e; have := G1.out; omega))
    have A3 := Lib.hid a3.here
    have K3 := Lib.hid ((K2.out.alloc _).newer a3.kp (by have := G1.out; have := HBR.out; omega))
    have y1 : w3.cell? ⟨bx, 1, none⟩ = some (.int .i64 0) := (blk_cell X3.out 1).trans rfl
    have y1f : w3.frozen? ⟨bx, 1, none⟩ = false := blk_free X3.out 1
    have NQ := Lib.hid (show ¬ (q = bx) by have := Z2.out; omega)
    have NV := Lib.hid (show ∀ g, V.ownBlock = some g → ¬ (g = bx) from fun g hg e => by have := (ZV.out g hg).2; omega)
    clear a3 hbx
    go_wp2_with fail
    refine (qget_any (A3.out.far (Kp.one (p := bx) 1 (.int .i64 (c : Int))) NQ.out NV.out) hL8 hb2 6 (by decide) _ rfl).mono ?_
    rintro e w4 ⟨rfl, a4⟩
    rw [← HN3.out, ← HF3.out] at a4
    rw [← HP.out]
    have X4 := Lib.hid (show w4.heap[bx]? = some (.cells #[.int .u8 (k : Int), .int .i64 (c : Int), .int .i64 0] 32 (0, 0)) from a4.kp.blk ((blk_set X3.out 1 _).trans rfl) (fun e => NQ.out e.symm))
    have R4 := Lib.hid (a4.kp.blk (blk_far R3.out (p := ⟨bx, 1, none⟩) (by show br ≠ bx; omega) (.int .i64 (c : Int))) (fun e => by have e : br = q := e; have := G1.out; omega))
    have K4 := Lib.hid ((K3.out.newer (Kp.one (p := bx) 1 (.int .i64 (c : Int))) (by have := HBR.out; omega)).newer a4.kp (by have := G1.out; have := HBR.out; omega))
    have y2 : w4.cell? ⟨bx, 2, none⟩ = some (.int .i64 0) := (blk_cell X4.out 2).trans rfl
    have y2f : w4.frozen? ⟨bx, 2, none⟩ = false := blk_free X4.out 2
    clear a4
    have X4s := blk_set X4.out 2 (.int .i64 (p : Int))
    have z0 : (w4.setCell ⟨bx, 2, none⟩ (.int .i64 (p : Int))).cell? ⟨bx, 0, none⟩ = some (.int .u8 (k : Int)) := (blk_cell X4s 0).trans rfl
    have z1 : (w4.setCell ⟨bx, 2, none⟩ (.int .i64 (p : Int))).cell? ⟨bx, 1, none⟩ = some (.int .i64 (c : Int)) := (blk_cell X4s 1).trans rfl
    have z2 : (w4.setCell ⟨bx, 2, none⟩ (.int .i64 (p : Int))).cell? ⟨bx, 2, none⟩ = some (.int .i64 (p : Int)) := (blk_cell X4s 2).trans rfl
    clear X4s
    go_wp2_with fail
    refine (layAct_any k (c : Int) (p : Int) (by omega) _).mono ?_
    rintro e w7 ⟨v7, rfl, k7⟩
    rw [← HE.out]
    rw [← HY.out] at k7
    obtain ⟨A7, c7, rfl⟩ := k7.own.rd.shape
    have X7 := Lib.hid (show w7.heap[bx]? = some (.cells #[.int .u8 (k : Int), .int .i64 (c : Int), .int .i64 (p : Int)] 32 (0, 0)) from k7.kp.blk ((blk_set X4.out 2 _).trans rfl) (no_no _))
    have R7 := Lib.hid (k7.kp.blk (blk_far R4.out (p := ⟨bx, 2, none⟩) (by show br ≠ bx; omega) (.int .i64 (p : Int))) (no_no _))
    have K7 := Lib.hid ((K4.out.newer (Kp.one (p := bx) 2 (.int .i64 (p : Int))) (by have := HBR.out; omega)).trans k7.kp)
    have s1 := k7.own.rd.str
    have s2 := (H.out.kpNo K7.out).str
    clear k7
    have u0 : w7.cell? ⟨br, 0, none⟩ = some (.int .u8 0) := (blk_cell R7.out 0).trans rfl
    have u1 : w7.cell? ⟨br, 1, none⟩ = some (.int .i64 0) := (blk_cell R7.out 1).trans rfl
    have u2 : w7.cell? ⟨br, 2, none⟩ = some (.int .i64 0) := (blk_cell R7.out 2).trans rfl
    have v0 : w7.frozen? ⟨br, 0, none⟩ = false := blk_free R7.out 0
    have v1 : w7.frozen? ⟨br, 1, none⟩ = false := blk_free R7.out 1
    have v2 : w7.frozen? ⟨br, 2, none⟩ = false := blk_free R7.out 2
    go_wp2
    have bE := blk_set (blk_set (blk_set R7.out 0 (.int .u8 0)) 1 (.int .i64 0)) 2 (.int .i64 0)
    have r0 := (blk_cell bE 0).trans rfl
    have r1 := (blk_cell bE 1).trans rfl
    have r2 := (blk_cell bE 2).trans rfl
    have kE := ((K7.out.newer (Kp.one (w := w7) (p := br) 0 (.int .u8 0)) (by have := HBR.out; omega)).newer (Kp.one (p := br) 1 (.int .i64 0)) (by have := HBR.out; omega)).newer (Kp.one (p := br) 2 (.int .i64 0)) (by have := HBR.out; omega)
    exact bodyPost_ret (v := .tuple #[.agg #[.int .u8 0, .int .i64 0, .int .i64 0], .int .i64 170]) (by simp [results, Try.results51, go_sem, r0, r1, r2]) rfl (ERR.out _ kE)
  · subst hYB
    have YES : Hid (∀ w', Kp No w w' → TakeAR Y w (.returned (.tuple #[.agg #[.int .u8 (k : Int), .int .i64 (c : Int), .int .i64 (p : Int)], .int .i64 0])) w') := Lib.hid fun w' hk => by
      unfold TakeAR tkaK tkaC tkaP tkaE
      rw [hok, ← t1, ← t2, ← t3]; exact ⟨rfl, hk⟩
    clear hok t1 t2 t3
    go_enter Try.func51, Try.ntmps51
    go_wp2_with fail
    refine (rof_any (H.out.kpNo ((Kp.refl No w).alloc _)) hB HX.out).mono ?_
    rintro e w1 ⟨q, rfl, V, a1⟩
    rw [← HL.out] at a1
    obtain ⟨br, hbr⟩ : ∃ br, br = w.heap.size := ⟨_, rfl⟩
    have R1 := Lib.hid (show w1.heap[br]? = some (.cells #[.int .u8 0, .int .i64 0, .int .i64 0] 32 (0, 0)) by rw [hbr]; exact a1.kp.blk (blk_new w _) (no_no _))
    have A1 := Lib.hid a1.at; have K1 := Lib.hid (show Kp No w w1 from ((Kp.refl No w).alloc _).trans a1.kp)
    have G1 := Lib.hid (show br < q by rw [hbr]; have := a1.po; simp at this; omega)
    have L1 := Lib.hid (show q < w1.heap.size from lt_of_block a1.blk)
    have VO := Lib.hid (show ∀ g, V.ownBlock = some g → br < g ∧ g < w1.heap.size from fun g hg => ⟨by have := a1.vo g hg; rw [hbr]; simp at this; omega, a1.own.lt hg⟩)
    have HBR := Lib.hid hbr
    rw [← hbr]
    clear a1 hbr
    go_wp2_with fail
    refine (qget_any A1.out hL8 (Nat.zero_le _) 2 (by decide) _ rfl).mono ?_
    rintro e w2 ⟨rfl, a2⟩
    rw [← HN1.out, ← HF1.out] at a2
    rw [← HK.out]
    have A2 := Lib.hid a2.here
    have R2 := Lib.hid (a2.kp.blk R1.out (fun e => by have e : br = q := e; have := G1.out; omega))
    have K2 := Lib.hid (K1.out.newer a2.kp (by have := G1.out; have := HBR.out; omega))
    have Z2 := Lib.hid (Nat.lt_of_lt_of_le L1.out a2.kp.size)
    have ZV := Lib.hid (show ∀ g, V.ownBlock = some g → br < g ∧ g < w2.heap.size from fun g hg => ⟨(VO.out g hg).1, Nat.lt_of_lt_of_le (VO.out g hg).2 a2.kp.size⟩)
    obtain ⟨bx, hbx⟩ : ∃ bx, bx = w2.heap.size := ⟨_, rfl⟩
    have HBX := Lib.hid hbx
    have hbrx : br < bx := by have := G1.out; have := Z2.out; omega
    clear a2
    go_wp2_with fail
    refine (qget_any (A2.out.kpNo ((Kp.refl No w2).alloc (.cells #[.int .u8 (k : Int), .int .i64 0, .int .i64 0] 32))).here hL8 hb1 8 (by decide) _ rfl).mono ?_
    rintro e w3 ⟨rfl, a3⟩
    rw [← HN2.out, ← HF2.out] at a3
    rw [← HC.out, ← hbx]
    have X3 := Lib.hid (show w3.heap[bx]? = some (.cells #[.int .u8 (k : Int), .int .i64 0, .int .i64 0] 32 (0, 0)) by rw [hbx]; exact a3.kp.blk (blk_new w2 _) (fun e => by have e : w2.heap.size = q := e; have := Z2.out; omega))
    have R3 := Lib.hid (a3.kp.blk (blk_alloc R2.out _) (fun e => by have e : br = q := e; have := G1.out; omega))
    have A3 := Lib.hid a3.here
    have K3 := Lib.hid ((K2.out.alloc _).newer a3.kp (by have := G1.out; have := HBR.out; omega))
    have y1 : w3.cell? ⟨bx, 1, none⟩ = some (.int .i64 0) := (blk_cell X3.out 1).trans rfl
    have y1f : w3.frozen? ⟨bx, 1, none⟩ = false := blk_free X3.out 1
    have NQ := Lib.hid (show ¬ (q = bx) by have := Z2.out; omega)
    have NV := Lib.hid (show ∀ g, V.ownBlock = some g → ¬ (g = bx) from fun g hg e => by have := (ZV.out g hg).2; omega)
    clear a3 hbx
    go_wp2_with fail
    refine (qget_any (A3.out.far (Kp.one (p := bx) 1 (.int .i64 (c : Int))) NQ.out NV.out) hL8 hb2 6 (by decide) _ rfl).mono ?_
    rintro e w4 ⟨rfl, a4⟩
    rw [← HN3.out, ← HF3.out] at a4
    rw [← HP.out]
    have X4 := Lib.hid (show w4.heap[bx]? = some (.cells #[.int .u8 (k : Int), .int .i64 (c : Int), .int .i64 0] 32 (0, 0)) from a4.kp.blk ((blk_set X3.out 1 _).trans rfl) (fun e => NQ.out e.symm))
    have R4 := Lib.hid (a4.kp.blk (blk_far R3.out (p := ⟨bx, 1, none⟩) (by show br ≠ bx; omega) (.int .i64 (c : Int))) (fun e => by have e : br = q := e; have := G1.out; omega))
    have K4 := Lib.hid ((K3.out.newer (Kp.one (p := bx) 1 (.int .i64 (c : Int))) (by have := HBR.out; omega)).newer a4.kp (by have := G1.out; have := HBR.out; omega))
    have y2 : w4.cell? ⟨bx, 2, none⟩ = some (.int .i64 0) := (blk_cell X4.out 2).trans rfl
    have y2f : w4.frozen? ⟨bx, 2, none⟩ = false := blk_free X4.out 2
    clear a4
    have X4s := blk_set X4.out 2 (.int .i64 (p : Int))
    have z0 : (w4.setCell ⟨bx, 2, none⟩ (.int .i64 (p : Int))).cell? ⟨bx, 0, none⟩ = some (.int .u8 (k : Int)) := (blk_cell X4s 0).trans rfl
    have z1 : (w4.setCell ⟨bx, 2, none⟩ (.int .i64 (p : Int))).cell? ⟨bx, 1, none⟩ = some (.int .i64 (c : Int)) := (blk_cell X4s 1).trans rfl
    have z2 : (w4.setCell ⟨bx, 2, none⟩ (.int .i64 (p : Int))).cell? ⟨bx, 2, none⟩ = some (.int .i64 (p : Int)) := (blk_cell X4s 2).trans rfl
    clear X4s
    go_wp2_with fail
    refine (layAct_any k (c : Int) (p : Int) (by omega) _).mono ?_
    rintro e w7 ⟨v7, rfl, k7⟩
    rw [← HE.out]
    rw [← HY.out] at k7
    obtain ⟨A7, c7, rfl⟩ := k7.own.rd.shape
    have X7 := Lib.hid (show w7.heap[bx]? = some (.cells #[.int .u8 (k : Int), .int .i64 (c : Int), .int .i64 (p : Int)] 32 (0, 0)) from k7.kp.blk ((blk_set X4.out 2 _).trans rfl) (no_no _))
    have R7 := Lib.hid (k7.kp.blk (blk_far R4.out (p := ⟨bx, 2, none⟩) (by show br ≠ bx; omega) (.int .i64 (p : Int))) (no_no _))
    have K7 := Lib.hid ((K4.out.newer (Kp.one (p := bx) 2 (.int .i64 (p : Int))) (by have := HBR.out; omega)).trans k7.kp)
    have s1 := k7.own.rd.str
    have s2 := (H.out.kpNo K7.out).str
    clear k7
    have x3 : w7.cell? ⟨bx, 0, none⟩ = some (.int .u8 (k : Int)) := (blk_cell X7.out 0).trans rfl
    have x4 : w7.cell? ⟨bx, 1, none⟩ = some (.int .i64 (c : Int)) := (blk_cell X7.out 1).trans rfl
    have x5 : w7.cell? ⟨bx, 2, none⟩ = some (.int .i64 (p : Int)) := (blk_cell X7.out 2).trans rfl
    have u0 : w7.cell? ⟨br, 0, none⟩ = some (.int .u8 0) := (blk_cell R7.out 0).trans rfl
    have u1 : w7.cell? ⟨br, 1, none⟩ = some (.int .i64 0) := (blk_cell R7.out 1).trans rfl
    have u2 : w7.cell? ⟨br, 2, none⟩ = some (.int .i64 0) := (blk_cell R7.out 2).trans rfl
    have v0 : w7.frozen? ⟨br, 0, none⟩ = false := blk_free R7.out 0
    have v1 : w7.frozen? ⟨br, 1, none⟩ = false := blk_free R7.out 1
    have v2 : w7.frozen? ⟨br, 2, none⟩ = false := blk_free R7.out 2
    go_wp2
    have bE := blk_set (blk_set (blk_set R7.out 0 (.int .u8 (k : Int))) 1 (.int .i64 (c : Int))) 2 (.int .i64 (p : Int))
    have r0 := (blk_cell bE 0).trans rfl
    have r1 := (blk_cell bE 1).trans rfl
    have r2 := (blk_cell bE 2).trans rfl
    have kE := ((K7.out.newer (Kp.one (w := w7) (p := br) 0 (.int .u8 (k : Int))) (by have := HBR.out; omega)).newer (Kp.one (p := br) 1 (.int .i64 (c : Int))) (by have := HBR.out; omega)).newer (Kp.one (p := br) 2 (.int .i64 (p : Int))) (by have := HBR.out; omega)
    exact bodyPost_ret (v := .tuple #[.agg #[.int .u8 (k : Int), .int .i64 (c : Int), .int .i64 (p : Int)], .int .i64 0]) (by simp [results, Try.results51, go_sem, r0, r1, r2]) rfl (YES.out _ kE)
end Go.Proofs.Ytbafdfkmakehnaa

namespace Go.Proofs.Ytbafdfkmakehnaa
set_option linter.unusedVariables false
set_option linter.unusedSimpArgs false
open Go.RowKit

/-- Only robots, receivers and senders were written. -/
def KeepB (w w' : World) : Prop := ∃ S, Kp S w w' ∧ Ty w S [76, 95, 93]
theorem KeepB.own {w w' : World} (h : KeepB w w') {α : Type} {K : Kd α} {e : TypeId} {v : Value} {l : List α} (o : Own K e w v l) (he : e ∉ [76, 95, 93]) : Own K e w' v l :=
  let ⟨_, hk, ht⟩ := h
  o.kp hk (ht.notO o he)
theorem KeepB.no {w w' : World} (hk : Kp No w w') : KeepB w w' := ⟨No, hk, fun _ h => h.elim⟩

/-- A robot that was made since w0. -/
structure RobA (w0 : World) (p ph ps : Nat) (R : Rob) (w : World) : Prop where
  ex : ∃ pa V, RobS p ph ps pa V R w
  kp : Kp No w0 w
  p0 : w0.heap.size ≤ p
  h0 : w0.heap.size ≤ ph
  s0 : w0.heap.size ≤ ps
section
variable {w0 w w' : World} {p ph ps : Nat} {R R' : Rob}
theorem RobA.no (h : RobA w0 p ph ps R w) (hk : Kp No w w') : RobA w0 p ph ps R w' := let ⟨pa, V, h1⟩ := h.ex; ⟨⟨pa, V, h1.no hk⟩, h.kp.no hk, h.p0, h.h0, h.s0⟩
theorem RobA.low {w1 : World} (h : RobA w1 p ph ps R w) (hk : Kp No w0 w1) : RobA w0 p ph ps R w := ⟨h.ex, hk.trans h.kp, Nat.le_trans hk.size h.p0, Nat.le_trans hk.size h.h0, Nat.le_trans hk.size h.s0⟩
theorem RobA.far {S : Nat → Prop} {ts : List TypeId} (h : RobA w0 p ph ps R w) (hk : Kp S w w') (hs : Ty w S ts) (ht : 76 ∉ ts ∧ 32 ∉ ts ∧ 95 ∉ ts ∧ 93 ∉ ts ∧ 5 ∉ ts) (hn : ∀ k, S k → w0.heap.size ≤ k) : RobA w0 p ph ps R w' :=
  let ⟨pa, V, h1⟩ := h.ex
  ⟨⟨pa, V, h1.far hk hs ht⟩, h.kp.trans' hk fun k hk e => by have := hn k e; omega, h.p0, h.h0, h.s0⟩
theorem RobTo.a {pa : Option Nat} {V : Value} (h : RobA w0 p ph ps R w) (ht : RobTo p ph ps pa V R' w w') : RobA w0 p ph ps R' w' :=
  let ⟨pa', V', h1, _, _⟩ := ht.tw
  ⟨⟨pa', V', h1⟩, h.kp.trans' ht.kp fun k hk e => by have := h.p0; have := h.h0; have := h.s0; omega, h.p0, h.h0, h.s0⟩

def NewA (dock charge : Int) (w : World) (e : Ending) (w' : World) : Prop :=
  (newRobE dock charge = true ∧ e = .returned (.tuple #[.pointer none, .int .i64 1]) ∧ w = w') ∨
    (newRobE dock charge = false ∧ ∃ p ph ps, e = .returned (.tuple #[.pointer (some ⟨p, 0, none⟩), .int .i64 0]) ∧ RobA w p ph ps (newRob dock charge) w')
theorem newA (dock charge : Int) (w : World) : Calls Try.prog 9 #[.int .i64 dock, .int .i64 charge] w (NewA dock charge w) :=
  (newRob_any dock charge w).mono fun _ _ h => h.imp id fun ⟨a, p, ph, ps, b, c, d, e, f, g⟩ => ⟨a, p, ph, ps, b, ⟨⟨_, _, c⟩, d, e, f, g⟩⟩
theorem chargeA (h : RobA w0 p ph ps R w) : Calls Try.prog 13 #[.pointer (some ⟨p, 0, none⟩)] w fun e w' => e = .returned (.int .i64 R.charge) ∧ w = w' := let ⟨_, _, h1⟩ := h.ex; charge_any h1
theorem doneA (h : RobA w0 p ph ps R w) : Calls Try.prog 14 #[.pointer (some ⟨p, 0, none⟩)] w fun e w' => e = .returned (.int .u64 (R.done : Int)) ∧ w = w' := let ⟨_, _, h1⟩ := h.ex; done_any h1
theorem cellsA (h : RobA w0 p ph ps R w) : Calls Try.prog 15 #[.pointer (some ⟨p, 0, none⟩)] w (CellsR (cellsL R) w) := let ⟨_, _, h1⟩ := h.ex; cells_any h1
theorem nextA (h : RobA w0 p ph ps R w) : Calls Try.prog 26 #[.pointer (some ⟨p, 0, none⟩)] w (NextR R w) := let ⟨_, _, h1⟩ := h.ex; next_any h1
theorem packetA (h : RobA w0 p ph ps R w) : Calls Try.prog 16 #[.pointer (some ⟨p, 0, none⟩)] w (PacketR R.told R.on [] w) := let ⟨_, _, h1⟩ := h.ex; rpkt_any h1
def StepA (w0 : World) (p ph ps : Nat) (R : Rob) (w : World) (e : Ending) (w' : World) : Prop := e = .returned (.bool (stepB R)) ∧ RobA w0 p ph ps (stepS R) w' ∧ KeepB w w'
theorem stepA (h : RobA w0 p ph ps R w) (ok : R.ok) : Calls Try.prog 12 #[.pointer (some ⟨p, 0, none⟩)] w (StepA w0 p ph ps R w) :=
  let ⟨_, _, h1⟩ := h.ex
  (step_any h1 ok).mono fun _ _ ⟨a, b⟩ => ⟨a, b.a h, ⟨_, b.kp, h1.ty3⟩⟩
def HeardA (w0 : World) (p ph ps : Nat) (R : Rob) (f : List Nat) (w : World) (e : Ending) (w' : World) : Prop := e = .returned (.bool (heardB R.told R.on f)) ∧ RobA w0 p ph ps (heardS R f) w' ∧ KeepB w w'
theorem heardA (h : RobA w0 p ph ps R w) {v : Value} {f : List Nat} (hv : Rd BK w v f) (hl : f.length ≤ 1000000) (hx : ∀ x ∈ f, x < 256) : Calls Try.prog 19 #[.pointer (some ⟨p, 0, none⟩), v] w (HeardA w0 p ph ps R f w) :=
  let ⟨_, _, h1⟩ := h.ex
  (rheard_any h1 hv hl hx).mono fun _ _ ⟨a, b⟩ => ⟨a, b.a h, ⟨_, b.kp, h1.ty3⟩⟩
def HearA (w0 : World) (p ph ps : Nat) (R : Rob) (F : List Nat) (w : World) (e : Ending) (w' : World) : Prop := ∃ v', e = .returned v' ∧ Own BK 5 w' v' (hearB R F) ∧ (∀ g, v'.ownBlock = some g → w.heap.size ≤ g) ∧ RobA w0 p ph ps (hearS R F) w' ∧ KeepB w w'
theorem tkD_len (F : List Nat) : (tkD F).length ≤ 1000000 := by
  unfold tkD
  split
  · rename_i h
    unfold takeOk tOk at h
    simp only [Bool.and_eq_true, decide_eq_true_eq] at h
    unfold tD
    rw [dataP_len]
    omega
  · simp
theorem tkD_byte (f : List Nat) : ∀ x ∈ tkD f, x < 256 := by
  unfold tkD
  split
  · unfold tD; exact dataP_lt _ _ _
  · intro x hx; simp at hx
theorem hearA (h : RobA w0 p ph ps R w) (ok : R.ok) {v : Value} {F : List Nat} (hv : Rd BK w v F) (hl : F.length ≤ 1000000) (hx : ∀ x ∈ F, x < 256) : Calls Try.prog 10 #[.pointer (some ⟨p, 0, none⟩), v] w (HearA w0 p ph ps R F w) :=
  let ⟨_, _, h1⟩ := h.ex
  (robHear_any h1 ok hv hl hx (tkD_len F) (tkD_byte F)).mono fun _ _ ⟨v', a, b, c, d⟩ => ⟨v', a, b, c, d.a h, ⟨_, d.kp, h1.ty3⟩⟩
end

/-- The packet by which a robot is told an act. -/
def pktA (n k : Nat) (c p : Int) : List Nat := layL false n (layA k c p)
def Pkt18R (n k : Nat) (c p : Int) (w : World) (e : Ending) (w' : World) : Prop := ∃ v', e = .returned v' ∧ NewS BK 5 w w' v' (pktA n k c p)
set_option maxRecDepth 100000 in
theorem packet18_any (n k : Nat) (c p : Int) (hn : n < 18446744073709551616) (hk : k < 256) (w : World) (x : Int) (hx : x = n) : Calls Try.prog 11 #[.int .u64 x, .agg #[.int .u8 (k : Int), .int .i64 c, .int .i64 p]] w (Pkt18R n k c p w) := by
  subst hx
  obtain ⟨D, hD⟩ : ∃ D, D = layA k c p := ⟨_, rfl⟩
  have HD := Lib.hid hD
  have HDX := Lib.hid (show ∀ x ∈ D, x < 256 by rw [hD]; exact layA_lt _ _ _)
  have hdl : D.length ≤ 1000000 := by rw [hD]; exact Nat.le_trans (layA_le _ _ _) (by decide)
  have HN := Lib.hid hn
  clear hD hn
  go_enter Try.func11, Try.ntmps11
  go_wp2_with fail
  refine (layAct_any k c p hk _).mono ?_
  rintro e w1 ⟨v1, rfl, k1⟩
  rw [← HD.out] at k1
  obtain ⟨A1, c1, rfl⟩ := k1.own.rd.shape
  have K1 := Lib.hid k1
  clear k1
  go_wp2_with fail
  refine (rlay_any K1.out.own.rd false n HN.out HDX.out).mono ?_
  rintro e w2 ⟨v2, rfl, k2⟩
  obtain ⟨A2, c2, rfl⟩ := k2.own.rd.shape
  have K2 := Lib.hid k2
  clear k2
  go_wp2
  go_ret
  refine ⟨_, rfl, ?_⟩
  unfold pktA
  rw [← HD.out]
  have kk := ((Kp.refl No w).alloc (.cells #[.int .u8 (k : Int), .int .i64 c, .int .i64 p] 32)).trans K1.out.kp
  exact ⟨K2.out.own, fun g hg => Nat.le_trans kk.size (K2.out.ge g hg), kk.trans K2.out.kp⟩
end Go.Proofs.Ytbafdfkmakehnaa

namespace Go.Proofs.Ytbafdfkmakehnaa
set_option linter.unusedVariables false
set_option linter.unusedSimpArgs false
open Go.RowKit

theorem pktA_lt (n k : Nat) (c p : Int) : ∀ x ∈ pktA n k c p, x < 256 := layL_lt _ _ _
theorem pktA_len (n k : Nat) (c p : Int) (hn : n < 18446744073709551616) : (pktA n k c p).length ≤ 1000000 := Nat.le_trans (layL_len _ _ _ hn) (by decide)
/-- A packet with the next number comes to a robot that has nothing to do. -/
theorem hear_next {R : Rob} {n k : Nat} {c p : Int} (hn : n < 18446744073709551615) (hm : mayA k c p = true) (hh : R.heard + 1 = n) (ha : R.act = none) :
    hearS R (pktA n k c p) = { R with heard := n, act := some (k, c, p), told := if R.on then R.told + 1 else R.told, on := false } ∧ hearB R (pktA n k c p) = layL true n [] := by
  have hx := layA_lt k c p
  obtain ⟨q1, q2, q3, q4⟩ := ack_laid R.heard n (layA k c p) hn (Nat.le_trans (layA_le _ _ _) (by decide)) hx
  have hnx : nxt R.heard = n := by unfold nxt; omega
  obtain ⟨t1, t2, t3, t4⟩ := take_layA hm
  have hf : freshB R.heard (pktA n k c p) = true := by unfold pktA; rw [q2, hnx]; simp; omega
  have hk : ackB R.heard (pktA n k c p) = true := by unfold pktA; rw [q1, hnx]; simp; omega
  have hd : tkD (pktA n k c p) = layA k c p := q4
  have hN : tkN (pktA n k c p) = n := q3
  have ht : takesB R (pktA n k c p) = true := by unfold takesB; rw [hf, ha, hd, t1]; rfl
  constructor
  · unfold hearS
    rw [hf, ht, hd, t2, t3, t4, hnx]
    simp
  · unfold hearB
    rw [hk, hN, if_pos rfl]

theorem rob_ok_of {R : Rob} (h1 : ∀ k c p, R.act = some (k, c, p) → mayA k c p = true) (h2 : R.to_ = -1 ∨ ((∃ p, R.act = some (1, R.to_, p)) ∧ 0 ≤ R.to_)) (h3 : 0 ≤ R.charge) (h4 : R.charge ≤ 9223372036854775807) (h5 : 0 ≤ R.full ∧ R.full ≤ 9223372036854775807)
    (h6 : R.done < 10000) (h7 : R.heard < 10000) (h8 : R.told < 10000) : R.ok := ⟨h1, h2, h3, h4, h5, by omega, by omega, by omega, fun _ => by omega⟩

def S1 : Rob := { newRob 0 9 with heard := 1, act := some (1, 1, 0) }
def S2 : Rob := { newRob 0 9 with heard := 1, act := some (1, 1, 0), charge := 8, to_ := 1 }
def S3 : Rob := { newRob 0 9 with heard := 1, act := none, charge := 8, to_ := -1, cell := 1, done := 1, on := true }
theorem s1_eq : hearS (newRob 0 9) (pktA 1 1 1 0) = S1 := (hear_next (by decide) (by decide) rfl rfl).1
theorem s1_b : hearB (newRob 0 9) (pktA 1 1 1 0) = layL true 1 [] := (hear_next (by decide) (by decide) rfl rfl).2
theorem s2_eq : stepS S1 = S2 ∧ stepB S1 = false := ⟨rfl, rfl⟩
theorem s3_eq : stepS S2 = S3 ∧ stepB S2 = true := ⟨rfl, rfl⟩
theorem s_ok : (newRob 0 9).ok ∧ S1.ok ∧ S2.ok := by
  refine ⟨newRob_ok (by decide) (by decide), ?_, ?_⟩
  · exact rob_ok_of (fun k c p e => by have e : some (1, (1 : Int), (0 : Int)) = some (k, c, p) := e; simp at e; obtain ⟨rfl, rfl, rfl⟩ := e; decide) (.inl rfl) (by decide) (by decide) (by decide) (by decide) (by decide) (by decide)
  · exact rob_ok_of (fun k c p e => by have e : some (1, (1 : Int), (0 : Int)) = some (k, c, p) := e; simp at e; obtain ⟨rfl, rfl, rfl⟩ := e; decide) (.inr ⟨⟨0, rfl⟩, by decide⟩) (by decide) (by decide) (by decide) (by decide) (by decide) (by decide)

theorem ints_lit (w : World) (cs : Array Value) (l : List Int) (hc : cs.toList = IK.encs l) (hm : l.length ≤ 1000) (n : Nat) (hn : n = l.length) : Rd IK (w.alloc (.cells cs 3)) (.slice (some ⟨w.heap.size, 0, none⟩) n n) l :=
  Rd.litAt IK 3 w cs l hc (by unfold maxLen; omega) _ n rfl hn

set_option maxRecDepth 100000 in
theorem shown18 (w : World) : Calls Try.prog 8 #[] w fun e w' => e = .returned (.bool true) ∧ Kp No w w' := by
  have HP := Lib.hid (layT_pos 1 (by decide))
  go_enter Try.func8, Try.ntmps8
  go_wp2_with fail
  refine (newA 0 9 w).mono ?_
  rintro e w1 (⟨h, _⟩ | ⟨_, p, ph, ps, rfl, a1⟩)
  · exact absurd h (by decide)
  have A1 := Lib.hid a1
  clear a1
  go_wp2_with fail
  refine (packet18_any 1 1 1 0 (by decide) (by decide) w1 _ rfl).mono ?_
  rintro e w2 ⟨v2, rfl, k2⟩
  have A2 := Lib.hid (A1.out.no k2.kp); have K2 := Lib.hid k2
  clear k2
  go_wp2_with fail
  refine (hearA A2.out s_ok.1 K2.out.own.rd (pktA_len _ _ _ _ (by decide)) (pktA_lt _ _ _ _)).mono ?_
  rintro e w3 ⟨v3, rfl, o3, _, a3, _⟩
  rw [s1_eq] at a3
  rw [s1_b] at o3
  obtain ⟨L, hL⟩ : ∃ L, L = layL true 1 [] := ⟨_, rfl⟩
  rw [← hL] at o3
  have hLp : 0 < L.length := by rw [hL]; exact HP.out
  have hL0 : ((L.length : Int) == 0) = false := by rw [beq_eq_false_iff_ne]; omega
  have hL1 : (L.length == 0) = false := by rw [beq_eq_false_iff_ne]; omega
  have hL2 : L ≠ [] := by intro e; rw [e] at hLp; simp at hLp
  obtain ⟨A3', c3, rfl⟩ := o3.rd.shape
  have A3 := Lib.hid a3
  clear a3 o3 hL hLp
  go_wp2_with fail
  refine (stepA A3.out s_ok.2.1).mono ?_
  rintro e w4 ⟨rfl, a4, _⟩
  rw [s2_eq.1] at a4
  rw [s2_eq.2]
  have A4 := Lib.hid a4
  clear a4
  go_wp2_with fail
  refine (cellsA A4.out).mono ?_
  rintro e w5 ⟨v5, rfl, k5⟩
  replace k5 : NewS IK 3 w4 w5 v5 [0, 1] := k5
  obtain ⟨A5', c5, rfl⟩ := k5.own.rd.shape
  have A5 := Lib.hid (A4.out.no k5.kp); have K5 := Lib.hid k5
  clear k5
  go_wp2_with fail
  refine (stepA A5.out s_ok.2.2).mono ?_
  rintro e w6 ⟨rfl, a6, q6⟩
  have I6 := Lib.hid (q6.own K5.out.own (by decide))
  clear q6
  rw [s3_eq.1] at a6
  rw [s3_eq.2]
  have A6 := Lib.hid a6
  clear a6
  go_wp2_with fail
  refine (cellsA A6.out).mono ?_
  rintro e w7 ⟨v7, rfl, k7⟩
  replace k7 : NewS IK 3 w6 w7 v7 [1] := k7
  obtain ⟨A7', c7, rfl⟩ := k7.own.rd.shape
  have A7 := Lib.hid (A6.out.no k7.kp); have K7 := Lib.hid k7
  clear k7
  go_wp2_with fail
  refine (packetA A7.out).mono ?_
  rintro e w8 ⟨v8, rfl, k8⟩
  obtain ⟨A8', c8, rfl⟩ := k8.own.rd.shape
  have A8 := Lib.hid (A7.out.no k8.kp); have K8 := Lib.hid k8
  clear k8
  have I8 := Lib.hid ((I6.out.kpNo K7.out.kp).kpNo K8.out.kp)
  have J8 := Lib.hid (K7.out.own.kpNo K8.out.kp)
  have hon : S3.on = true := rfl
  rw [hon]
  clear hon
  go_wp2_with fail
  refine (sameInts_any (a := [0, 1]) (b := [0, 1]) (I8.out.alloc _).rd (ints_lit w8 _ [0, 1] rfl (by decide) 2 rfl) true (by decide)).mono ?_
  rintro e w9 ⟨rfl, k9⟩
  have A9 := Lib.hid ((A8.out.no ((Kp.refl No w8).alloc _)).no k9)
  have J9 := Lib.hid ((J8.out.alloc (.cells #[.int .i64 0, .int .i64 1] 3)).kpNo k9)
  clear k9
  go_wp2_with fail
  refine (sameInts_any (a := [1]) (b := [1]) (J9.out.alloc _).rd (ints_lit w9 _ [1] rfl (by decide) 1 rfl) true (by decide)).mono ?_
  rintro e w10 ⟨rfl, k10⟩
  have A10 := Lib.hid ((A9.out.no ((Kp.refl No w9).alloc _)).no k10)
  clear k10
  go_wp2_with fail
  refine (doneA A10.out).mono ?_
  rintro e w11 ⟨rfl, rfl⟩
  have hd : S3.done = 1 := rfl
  rw [hd]
  clear hd
  go_wp2_with fail
  refine (chargeA A10.out).mono ?_
  rintro e w11 ⟨rfl, rfl⟩
  have hc : S3.charge = 8 := rfl
  rw [hc]
  clear hc
  go_wp2
  go_ret
  exact ⟨rfl, A10.out.kp⟩
end Go.Proofs.Ytbafdfkmakehnaa

namespace Go.Proofs.Ytbafdfkmakehnaa
set_option linter.unusedVariables false
set_option linter.unusedSimpArgs false
open Go.RowKit

/-- v, that came in, reads as l. -/
def RdA {α : Type} (K : Kd α) (w : World) (v : Value) (l : List α) : Prop :=
  ∃ A cap, v = .slice A l.length cap ∧ ∀ i x, l[i]? = some x → ∃ g o, A = some ⟨g, o, none⟩ ∧ ∀ j u, (K.enc x)[j]? = some u → w.cell? ⟨g, o + i * K.sz + j, none⟩ = some u

theorem Rd.a {α : Type} {K : Kd α} {w : World} {v : Value} {l : List α} (h : Rd K w v l) : RdA K w v l := by
  have h' := h
  rcases h with ⟨⟨A, c, rfl⟩, rfl⟩ | ⟨g, o, cap, rfl, _⟩
  · exact ⟨A, c, rfl, by simp⟩
  · exact ⟨_, cap, rfl, fun i x hx => ⟨g, o, rfl, fun j u hu => h'.at rfl hx hu⟩⟩
theorem RdA.kpNo {α : Type} {K : Kd α} {w w' : World} {v : Value} {l : List α} (h : RdA K w v l) (hk : Kp No w w') : RdA K w' v l :=
  let ⟨A, cap, hv, hc⟩ := h
  ⟨A, cap, hv, fun i x hx => let ⟨g, o, hA, hu⟩ := hc i x hx; ⟨g, o, hA, fun j u hj => hk.cellS (hu j u hj) (no_no _)⟩⟩
theorem RdA.shape {α : Type} {K : Kd α} {w : World} {v : Value} {l : List α} (h : RdA K w v l) : ∃ A cap, v = .slice A l.length cap := let ⟨A, cap, hv, _⟩ := h; ⟨A, cap, hv⟩
theorem RdA.take {α : Type} {K : Kd α} {w : World} {A : Option Addr} {n cap : Nat} {l : List α} (h : RdA K w (.slice A n cap) l) (m : Nat) : RdA K w (.slice A (min m n) cap) (l.take m) := by
  obtain ⟨A', cap', hv, hc⟩ := h
  simp only [Value.slice.injEq] at hv
  obtain ⟨rfl, rfl, rfl⟩ := hv
  refine ⟨A, cap, by simp, fun i x hx => ?_⟩
  rw [List.getElem?_take] at hx
  split at hx
  · exact hc i x hx
  · cases hx
theorem RdA.at {α : Type} {K : Kd α} {w : World} {A : Option Addr} {n cap : Nat} {l : List α} (h : RdA K w (.slice A n cap) l) {i : Nat} {x : α} (hx : l[i]? = some x) :
    ∃ g o, A = some ⟨g, o, none⟩ ∧ ∀ j u, (K.enc x)[j]? = some u → w.cell? ⟨g, o + i * K.sz + j, none⟩ = some u := by
  obtain ⟨A', cap', hv, hc⟩ := h
  simp only [Value.slice.injEq] at hv
  obtain ⟨rfl, rfl, rfl⟩ := hv
  exact hc i x hx

/-- 's[:hi]' of whatever came in. -/
theorem run_slice_hiA {α : Type} {K : Kd α} {P : Program} {t e : TypeId} {bytes : Nat} (E : ElT P t e K bytes) (A : Option Addr) (n cap hi : Nat) (h : hi ≤ cap) (x : Int) (hx : x = hi) (w : World) :
    (Instr.slice t (.slice A n cap) none (some (.int .i64 x)) none).run P w = .ok (.slice A hi cap) w := by
  subst hx
  obtain ⟨ht, i, z, hi', hz, hsize, hby, hzs⟩ := E
  have hA : (if cap = 0 then A else A.map (·.add (0 * i.size))) = A := by
    split
    · rfl
    · cases A <;> simp [Addr.add]
  simp only [Nat.zero_mul] at hA
  simp [Instr.slice, Instr.sliceBounds, Instr.sliceBound, run_underlying ht, sizeOf, typeInfo, hi', asIntOf, h, hA]

theorem list_of {α : Type} (Q : Nat → α → Prop) : ∀ n, (∀ i, i < n → ∃ x, Q i x) → ∃ l : List α, l.length = n ∧ ∀ i x, l[i]? = some x → Q i x
  | 0, _ => ⟨[], rfl, by simp⟩
  | n + 1, h => by
    obtain ⟨l, hl, hq⟩ := list_of Q n fun i hi => h i (by omega)
    obtain ⟨x, hx⟩ := h n (by omega)
    refine ⟨l ++ [x], by simp [hl], fun i y hy => ?_⟩
    rw [List.getElem?_append] at hy
    split at hy
    · exact hq i y hy
    · rename_i hi
      have : i = l.length := by
        have := (List.getElem?_eq_some_iff.1 hy).1
        simp at this; omega
      subst this
      simp at hy
      subst hy
      rw [hl]; exact hx

theorem open_rows {α : Type} {K : Kd α} {H : Type} {enc : TypeId × Value → H} {P : Program} {w : World} {base : Nat} {spare : Nat → Bool} {held : Bool} {t e : TypeId} {fuel : Nat} {v : Value} {x : DataW H × List MemPlace} (Good : α → Prop)
    (ht : P.underlying t = some (.slice e)) (hC : P.cellsOf e = K.sz) (dec : ∀ n cs' y, DataW.trod enc P w base spare held n e cs' = some y → ∃ x : α, cs' = K.enc x ∧ Good x)
    (h : DataW.trod enc P w base spare held fuel t [v] = some x) : ∃ l : List α, RdA K w v l ∧ (∀ x ∈ l, Good x) ∧ ∃ A cap, v = .slice A l.length cap ∧ l.length ≤ cap ∧ cap ≤ maxLen := by
  rcases Go.Deep.open_slice ht h with ⟨h0, _⟩ | ⟨a, len, cap, m, n, D, Pl, hcs, hb, hl, hm, hmm, hx, hi⟩
  · simp at h0
    exact ⟨[], ⟨none, 0, h0, by simp⟩, by simp, none, 0, h0, by simp, by simp⟩
  · simp at hcs
    have hml : len ≤ m := by rw [hmm]; split <;> omega
    have hsp : 0 < len → a = ⟨a.block, a.off, none⟩ := by
      intro h0
      obtain ⟨cs', hc, ht'⟩ := hi 0 (by omega)
      obtain ⟨y, rfl, _⟩ := dec n cs' _ ht'
      obtain ⟨_, hcl, hat⟩ := World.cells?_some hc
      have h1 := hat 0 (by rw [hC]; exact K.pos)
      rw [List.getElem?_eq_getElem (by rw [K.len y]; exact K.pos), Nat.zero_mul] at h1
      have := World.cell?_spot h1
      simp only [Addr.add, if_true] at this
      obtain ⟨b, o, sp⟩ := a
      simp only at this
      rw [this]
    obtain ⟨l, hll, hq⟩ := list_of (fun i (x : α) => Good x ∧ ∃ g o, some a = some (⟨g, o, none⟩ : Addr) ∧ ∀ j u, (K.enc x)[j]? = some u → w.cell? ⟨g, o + i * K.sz + j, none⟩ = some u) len fun i hil => by
      obtain ⟨cs', hc, ht'⟩ := hi i (by omega)
      obtain ⟨y, rfl, hg⟩ := dec n cs' _ ht'
      obtain ⟨_, hcl, hat⟩ := World.cells?_some hc
      rw [hC] at hat
      have ha := hsp (by omega)
      refine ⟨y, hg, a.block, a.off, congrArg some ha, fun j u hj => ?_⟩
      have hjl : j < K.sz := by rw [← K.len y]; exact (List.getElem?_eq_some_iff.1 hj).1
      have := hat j hjl
      rw [ha] at this
      simp only [Addr.add_lit] at this
      rw [this, hj]
    subst hll
    exact ⟨l, ⟨some a, cap, hcs, fun i x hx => (hq i x hx).2⟩, fun x hx => by obtain ⟨i, hil, rfl⟩ := List.getElem_of_mem hx; exact (hq i _ (List.getElem?_eq_getElem hil)).1, some a, cap, hcs, hl, hm⟩
end Go.Proofs.Ytbafdfkmakehnaa

namespace Go.Proofs.Ytbafdfkmakehnaa
set_option linter.unusedVariables false
set_option linter.unusedSimpArgs false
open Go.ChangeShapes Go.WideShapes Go.ChangeAt Go.RowKit Go.Joins

theorem own : ownKnob Try.prog.godebug = none := by kernel_rfl
theorem laid : laidOutB Try.prog = true := by kernel_rfl

theorem Kd.encs_split {α : Type} (K : Kd α) (l : List α) : ∀ (j : Nat) (u : Value), (K.encs l)[j]? = some u → ∃ i x j', l[i]? = some x ∧ (K.enc x)[j']? = some u ∧ j = i * K.sz + j' := by
  induction l with
  | nil => intro j u h; simp [Kd.encs] at h
  | cons a l ih =>
    intro j u h
    rw [K.encs_cons] at h
    rcases Nat.lt_or_ge j (K.enc a).length with hj | hj
    · rw [List.getElem?_append_left hj] at h
      exact ⟨0, a, j, rfl, h, by omega⟩
    · rw [List.getElem?_append_right hj, K.len] at h
      obtain ⟨i, x, j', h1, h2, h3⟩ := ih _ _ h
      rw [K.len] at hj
      refine ⟨i + 1, x, j', by simpa using h1, h2, ?_⟩
      rw [Nat.add_mul, Nat.one_mul]; omega
theorem RdA.rd {α : Type} {K : Kd α} {w : World} {A : Option Addr} {n cap : Nat} {l : List α} (h : RdA K w (.slice A n cap) l) (h1 : l.length ≤ cap) (h2 : cap ≤ maxLen) : Rd K w (.slice A l.length cap) l := by
  cases l with
  | nil => exact Rd.empty K w A cap
  | cons a l =>
    obtain ⟨g, o, rfl, _⟩ := h.at (i := 0) (x := a) rfl
    refine .inr ⟨g, o, cap, rfl, h1, h2, fun j u hu => ?_⟩
    obtain ⟨i, x, j', e1, e2, rfl⟩ := K.encs_split _ _ _ hu
    obtain ⟨g', o', hg, hc⟩ := h.at e1
    simp only [Option.some.injEq, Addr.mk.injEq] at hg
    obtain ⟨rfl, rfl, _⟩ := hg
    rw [← Nat.add_assoc]
    exact hc j' u e2

section
variable {H : Type} {enc : TypeId × Value → H} {w : World} {base : Nat} {spare : Nat → Bool} {held : Bool}

theorem byte_dec {n : Nat} {cs : List Value} {y : DataW H × List MemPlace} (h : DataW.trod enc Try.prog w base spare held n 5 cs = some y) : ∃ x : Nat, cs = BK.enc x ∧ x < 256 := by
  obtain ⟨k, e0, _, wk⟩ := DataW.trod_int Try.underlying5 h
  have := bounds_u8 wk
  refine ⟨k.toNat, ?_, by omega⟩
  rw [e0]
  show [Value.int .u8 k] = [.int .u8 ((k.toNat : Nat) : Int)]
  rw [Int.toNat_of_nonneg this.1]
set_option maxRecDepth 100000 in
/-- Bytes that came in. -/
theorem bytes_dec {n : Nat} {v : Value} {y : DataW H × List MemPlace} (h : DataW.trod enc Try.prog w base spare held n 27 [v] = some y) : ∃ l : List Nat, Rd BK w v l ∧ ∀ x ∈ l, x < 256 := by
  obtain ⟨l, h1, h2, A, cap, rfl, h3, h4⟩ := open_rows (K := BK) (fun x : Nat => x < 256) Try.underlying27 (by kernel_rfl) (fun n cs' y hy => byte_dec hy) h
  exact ⟨l, h1.rd h3 h4, h2⟩
set_option maxRecDepth 100000 in
theorem open_bytes {v : Value} {d : DataW H} {p : List MemPlace} {r : Reach} {b0 : Nat} (hv : Value.okWide Try.prog w r b0 27 v) (h : DataW.Trod enc Try.prog w base spare held 27 v d p) : ∃ l : List Nat, Rd BK w v l ∧ ∀ x ∈ l, x < 256 := by
  obtain ⟨a0, len, cap, rfl⟩ := okWide_slice Try.underlying27 hv
  obtain ⟨fuel, hf⟩ := h
  exact bytes_dec hf
set_option maxRecDepth 100000 in
theorem open_packet {v : Value} {d : DataW H} {p : List MemPlace} {r : Reach} {b0 : Nat} (hv : Value.okWide Try.prog w r b0 40 v) (h : DataW.Trod enc Try.prog w base spare held 40 v d p) :
    ∃ (hd : Bool) (n : Nat) (v2 : Value) (l : List Nat), v = .agg #[.bool hd, .int .u64 (n : Int), v2] ∧ n < 18446744073709551616 ∧ Rd BK w v2 l ∧ ∀ x ∈ l, x < 256 := by
  obtain ⟨v0, v1, v2, y0, y1, y2, n, rfl, _, _, h0, h1, h2⟩ := open_agg3 Try.underlying40 (by kernel_rfl) (by kernel_rfl) hv h
  obtain ⟨b, e0, _⟩ := DataW.trod_bool Try.underlying4 h0
  obtain ⟨k, e1, _, wk⟩ := DataW.trod_int Try.underlying30 h1
  obtain ⟨l, h3, h4⟩ := bytes_dec h2
  simp at e0 e1
  subst e0 e1
  have hb := bounds_u64 wk
  refine ⟨b, k.toNat, v2, l, ?_, by omega, h3, h4⟩
  rw [Int.toNat_of_nonneg hb.1]
end
end Go.Proofs.Ytbafdfkmakehnaa

namespace Go.Proofs.Ytbafdfkmakehnaa
set_option linter.unusedVariables false
set_option linter.unusedSimpArgs false
open Go.ChangeShapes Go.WideShapes Go.ChangeAt Go.RowKit Go.Joins

/-- A slice's head, and what it reads as. -/
structure SlH where
  A : Option Addr
  c : Nat
  b : List Nat
def SlH.val (x : SlH) : Value := .slice x.A x.b.length x.c
def SHK : Kd SlH := { sz := 1, enc := fun x => [x.val], len := fun _ => rfl, one := by intro a v hv; simp at hv; subst hv; rfl, pos := by decide }
def SlH.ok (w : World) (x : SlH) : Prop := Rd BK w x.val x.b ∧ ∀ y ∈ x.b, y < 256
theorem SlH.ok.kpNo {w w' : World} {x : SlH} (h : x.ok w) (hk : Kp No w w') : x.ok w' := ⟨h.1.kpNo hk, h.2⟩
theorem Rd.slAt {w : World} {l : List SlH} {g o n cap : Nat} (h : Rd SHK w (.slice (some ⟨g, o, none⟩) n cap) l) {i : Nat} {x : SlH} (hx : l[i]? = some x) : w.cell? ⟨g, o + i, none⟩ = some (.slice x.A x.b.length x.c) := by
  have := h.at rfl hx (j := 0) rfl
  simpa [SHK, SlH.val] using this

section
variable {H : Type} {enc : TypeId × Value → H} {w : World} {base : Nat} {spare : Nat → Bool} {held : Bool}
theorem slh_dec {n : Nat} {cs : List Value} {y : DataW H × List MemPlace} (h : DataW.trod enc Try.prog w base spare held n 27 cs = some y) : ∃ x : SlH, cs = SHK.enc x ∧ x.ok w := by
  have hc : ∃ v, cs = [v] := by
    rcases Go.Deep.open_slice Try.underlying27 h with ⟨h0, _⟩ | ⟨a, len, cap, m, n, D, Pl, hcs, _⟩
    · exact ⟨_, h0⟩
    · exact ⟨_, hcs⟩
  obtain ⟨v, rfl⟩ := hc
  obtain ⟨b, h1, h2⟩ := bytes_dec h
  obtain ⟨A, c, rfl⟩ := h1.shape
  exact ⟨⟨A, c, b⟩, rfl, h1, h2⟩
end
end Go.Proofs.Ytbafdfkmakehnaa

namespace Go.Proofs.Ytbafdfkmakehnaa
set_option linter.unusedVariables false
set_option linter.unusedSimpArgs false
open Go.ChangeShapes Go.WideShapes Go.ChangeAt Go.RowKit Go.Joins

structure A18 where
  k : Nat
  xk : Nat
  xc : Int
  xp : Int
  n : Nat
  s : SlH
def AK18 : Kd A18 := { sz := 6, enc := fun x => [.int .u8 (x.k : Int), .int .u8 (x.xk : Int), .int .i64 x.xc, .int .i64 x.xp, .int .u64 (x.n : Int), x.s.val], len := fun _ => rfl, one := by intro a v hv; simp at hv; rcases hv with rfl | rfl | rfl | rfl | rfl | rfl <;> rfl, pos := by decide }
theorem elA18 : ElT Try.prog 47 53 AK18 64 := ElT.of (z := .agg #[.int .u8 0, .int .u8 0, .int .i64 0, .int .i64 0, .int .u64 0, .slice none 0 0]) (by kernel_rfl) (by kernel_rfl) rfl
def A18.ok (w : World) (x : A18) : Prop := x.s.ok w ∧ x.k < 256 ∧ x.xk < 256 ∧ x.n < 18446744073709551616
theorem Rd.act18At {w : World} {l : List A18} {g o n cap : Nat} (h : Rd AK18 w (.slice (some ⟨g, o, none⟩) n cap) l) {i : Nat} {x : A18} (hx : l[i]? = some x) :
    w.cell? ⟨g, o + i * 6, none⟩ = some (.int .u8 (x.k : Int)) ∧ w.cell? ⟨g, o + i * 6 + 1, none⟩ = some (.int .u8 (x.xk : Int)) ∧ w.cell? ⟨g, o + i * 6 + 2, none⟩ = some (.int .i64 x.xc) ∧ w.cell? ⟨g, o + i * 6 + 3, none⟩ = some (.int .i64 x.xp) ∧
      w.cell? ⟨g, o + i * 6 + 4, none⟩ = some (.int .u64 (x.n : Int)) ∧ w.cell? ⟨g, o + i * 6 + 5, none⟩ = some (.slice x.s.A x.s.b.length x.s.c) :=
  ⟨h.at rfl hx (j := 0) rfl, h.at rfl hx (j := 1) rfl, h.at rfl hx (j := 2) rfl, h.at rfl hx (j := 3) rfl, h.at rfl hx (j := 4) rfl, h.at rfl hx (j := 5) rfl⟩

section
variable {H : Type} {enc : TypeId × Value → H} {w : World} {base : Nat} {spare : Nat → Bool} {held : Bool}
set_option maxRecDepth 100000 in
theorem act_dec {n : Nat} {cs : List Value} {y : DataW H × List MemPlace} (h : DataW.trod enc Try.prog w base spare held n 32 cs = some y) : ∃ (k : Nat) (c p : Int), cs = [.int .u8 (k : Int), .int .i64 c, .int .i64 p] ∧ k < 256 := by
  obtain ⟨ys, n', rfl, hy, hlen, hyl, hf⟩ := DataW.trod_struct Try.underlying32 h
  have hc : Try.prog.cellsOf 32 = 3 := by kernel_rfl
  have hu : Try.prog.cellsOf 5 = 1 := by kernel_rfl
  have hi : Try.prog.cellsOf 3 = 1 := by kernel_rfl
  rw [hc] at hlen
  match cs, hlen with
  | [c0, c1, c2], _ =>
    match ys, hyl with
    | [y0, y1, y2], _ =>
      have h0 := hf 0 _ rfl
      have h1 := hf 1 _ rfl
      have h2 := hf 2 _ rfl
      simp [hu, hi] at h0 h1 h2
      obtain ⟨k, e0, _, wk⟩ := DataW.trod_int Try.underlying5 h0
      obtain ⟨c, e1, _, _⟩ := DataW.trod_int Try.underlying3 h1
      obtain ⟨p, e2, _, _⟩ := DataW.trod_int Try.underlying3 h2
      have hk := bounds_u8 wk
      simp at e0 e1 e2
      refine ⟨k.toNat, c, p, ?_, by omega⟩
      rw [e0, e1, e2, Int.toNat_of_nonneg hk.1]
set_option maxRecDepth 100000 in
theorem act18_dec {n : Nat} {cs : List Value} {y : DataW H × List MemPlace} (h : DataW.trod enc Try.prog w base spare held n 53 cs = some y) : ∃ x : A18, cs = AK18.enc x ∧ x.ok w := by
  obtain ⟨ys, n', rfl, hy, hlen, hyl, hf⟩ := DataW.trod_struct Try.underlying53 h
  have hc : Try.prog.cellsOf 53 = 6 := by kernel_rfl
  have hu : Try.prog.cellsOf 5 = 1 := by kernel_rfl
  have ha : Try.prog.cellsOf 32 = 3 := by kernel_rfl
  have h64 : Try.prog.cellsOf 30 = 1 := by kernel_rfl
  have hb : Try.prog.cellsOf 27 = 1 := by kernel_rfl
  rw [hc] at hlen
  match cs, hlen with
  | [c0, c1, c2, c3, c4, c5], _ =>
    match ys, hyl with
    | [y0, y1, y2, y3], _ =>
      have h0 := hf 0 _ rfl
      have h1 := hf 1 _ rfl
      have h2 := hf 2 _ rfl
      have h3 := hf 3 _ rfl
      simp [hu, ha, h64, hb] at h0 h1 h2 h3
      obtain ⟨k, e0, _, wk⟩ := DataW.trod_int Try.underlying5 h0
      obtain ⟨xk, xc, xp, e1, wx⟩ := act_dec h1
      obtain ⟨n, e2, _, wn⟩ := DataW.trod_int Try.underlying30 h2
      obtain ⟨x, e3, ok⟩ := slh_dec h3
      have hk := bounds_u8 wk
      have hn := bounds_u64 wn
      simp at e0 e1 e2
      have e3' : c5 = x.val := by simpa [SHK] using e3
      obtain ⟨rfl, rfl, rfl⟩ := e1
      refine ⟨⟨k.toNat, xk, xc, xp, n.toNat, x⟩, ?_, ok, by show k.toNat < 256; omega, wx, by show n.toNat < _; omega⟩
      rw [e0, e2, e3']
      show [Value.int .u8 k, .int .u8 (xk : Int), .int .i64 xc, .int .i64 xp, .int .u64 n, x.val] = [.int .u8 ((k.toNat : Nat) : Int), .int .u8 (xk : Int), .int .i64 xc, .int .i64 xp, .int .u64 ((n.toNat : Nat) : Int), x.val]
      rw [Int.toNat_of_nonneg hk.1, Int.toNat_of_nonneg hn.1]
set_option maxRecDepth 100000 in
theorem open_acts18 {v : Value} {d : DataW H} {p : List MemPlace} {r : Reach} {b0 : Nat} (hv : Value.okWide Try.prog w r b0 47 v) (h : DataW.Trod enc Try.prog w base spare held 47 v d p) : ∃ l : List A18, Rd AK18 w v l ∧ ∀ x ∈ l, x.ok w := by
  obtain ⟨a0, len, cap, rfl⟩ := okWide_slice Try.underlying47 hv
  obtain ⟨fuel, hf⟩ := h
  obtain ⟨l, h1, h2, A, cap', hv', h3, h4⟩ := open_rows (K := AK18) (A18.ok w) Try.underlying47 (by kernel_rfl) (fun n cs' y hy => act18_dec hy) hf
  simp only [Value.slice.injEq] at hv'
  obtain ⟨rfl, rfl, rfl⟩ := hv'
  exact ⟨l, h1.rd h3 h4, h2⟩
end

/-- What few hands back. -/
def Few18R (v : Value) (l : List A18) (w : World) (e : Ending) (w' : World) : Prop := ∃ v' m, e = .returned v' ∧ m ≤ l.length ∧ (∀ w0, Rd AK18 w0 v l → Rd AK18 w0 v' (l.take m)) ∧ m ≤ 150 ∧ (∀ x ∈ l.take m, x.s.b.length ≤ 300) ∧ w = w'
theorem Rd.uptoD {α : Type} {K : Kd α} {P : Program} {t e : TypeId} {bytes : Nat} (E : ElT P t e K bytes) {w0 : World} {v v2 : Value} {l : List α} (h : Rd K w0 v l) (p : Nat) (hp : p ≤ l.length) (x : Int) (hx : x = p)
    (hr : ∀ w', (Instr.slice t v none (some (.int .i64 x)) none).run P w' = .ok v2 w') : Rd K w0 v2 (l.take p) := by
  obtain ⟨v3, h1, h2, _⟩ := h.upto E p hp x hx
  have := (h1 w0).symm.trans (hr w0)
  simp only [Result.ok.injEq, and_true] at this
  rw [← this]; exact h2
theorem Rd.lenL {α : Type} {K : Kd α} {w : World} {v : Value} {l : List α} (h : Rd K w v l) : l.length ≤ maxLen := by
  rcases h with ⟨_, rfl⟩ | ⟨_, _, _, _, h1, h2, _⟩
  · simp
  · omega

set_option maxRecDepth 100000 in
theorem few18_any {w : World} {v : Value} {l : List A18} (hv : Rd AK18 w v l) : Calls Try.prog 21 #[v] w (Few18R v l w) := by
  have HL := Lib.hid hv.lenL
  obtain ⟨A, cap, rfl⟩ := hv.shape
  have H := Lib.hid hv
  clear hv
  go_enter Try.func21, Try.ntmps21
  go_wp2
  go_loop [6] (fun i => ∃ k : Nat, i = .int .i64 k ∧ k ≤ l.length ∧ k ≤ 150 ∧ ∀ x ∈ l.take k, x.s.b.length ≤ 300) (fun i => l.length - (intOf i).toNat)
  case atStart => exact ⟨0, rfl, by omega, by omega, fun x hx => by simp at hx⟩
  case round =>
    obtain ⟨k, rfl, hk, hk1, hx⟩ := hrel
    have HXS := Lib.hid hx
    clear hx
    by_cases hlt : k < l.length
    · obtain ⟨x, hx⟩ : ∃ x, l[k]? = some x := ⟨_, List.getElem?_eq_getElem hlt⟩
      have hltI : (k : Int) < (l.length : Int) := by omega
      have hml := HL.out
      have hwk : IntKind.i64.wrap ((k : Int) + 1) = (k : Int) + 1 := IntWalk.i64_in _ (by omega)
      obtain ⟨s, A2, c2, HS, hsl, hrun, HD, _⟩ := H.out.upto2 elA18 k (by omega) (k : Int) rfl
      have HRUN := Lib.hid hrun
      rcases H.out with ⟨_, he⟩ | ⟨g, o, cap', hv, _⟩
      · rw [he] at hlt; simp at hlt
      simp only [Value.slice.injEq] at hv
      obtain ⟨rfl, _, rfl⟩ := hv
      obtain ⟨hc0, hc1, hc2, hc3, hc4, hc5⟩ := H.out.act18At hx
      have HSN := Lib.hid (show l.take (k + 1) = l.take k ++ [x] by rw [List.take_add_one, hx]; rfl)
      clear hx hlt hml hc0 hc1 hc2 hc3 hc4
      by_cases h100 : k < 150
      · have h1I : ¬ (150 : Int) ≤ (k : Int) := by omega
        by_cases h300 : 300 < x.s.b.length
        · have h3I : (300 : Int) < (x.s.b.length : Int) := by omega
          clear h300 hsl
          go_wp2
          go_ret
          exact ⟨_, k, rfl, hk, fun w0 h0 => h0.uptoD elA18 k hk (k : Int) rfl HRUN.out, hk1, HXS.out, rfl⟩
        · have h3I : ¬ (300 : Int) < (x.s.b.length : Int) := by omega
          have h3 : x.s.b.length ≤ 300 := by omega
          clear h300 hsl hrun
          go_wp2
          go_round
          case rel => exact ⟨k + 1, by go_num, by omega, by omega, fun y hy => by rw [HSN.out] at hy; rcases List.mem_append.1 hy with hy | hy; exact HXS.out y hy; rw [List.mem_singleton.1 hy]; exact h3⟩
          case measure => simp [intOf]; omega
      · have h1I : (150 : Int) ≤ (k : Int) := by omega
        clear h100 hsl
        go_wp2
        go_ret
        exact ⟨_, k, rfl, hk, fun w0 h0 => h0.uptoD elA18 k hk (k : Int) rfl HRUN.out, hk1, HXS.out, rfl⟩
    · obtain rfl : k = l.length := by omega
      have hd0 : ¬ (l.length : Int) < (l.length : Int) := by omega
      clear hlt
      go_wp2
      go_ret
      exact ⟨.slice A l.length cap, l.length, rfl, Nat.le_refl _, fun w0 h0 => by rw [List.take_length]; exact h0, hk1, HXS.out, rfl⟩
end Go.Proofs.Ytbafdfkmakehnaa

namespace Go.Proofs.Ytbafdfkmakehnaa
set_option linter.unusedVariables false
set_option linter.unusedSimpArgs false
open Go.RowKit

theorem cellsL_len (R : Rob) : (cellsL R).length = 1 ∨ (cellsL R).length = 2 := by
  unfold cellsL; split
  · exact .inl rfl
  · exact .inr rfl
theorem doneS_done (R : Rob) : (doneS R).done = nxt R.done := rfl
theorem doneS_to (R : Rob) : (doneS R).to_ = R.to_ := rfl
theorem doneS_cell (R : Rob) : (doneS R).cell = R.cell := rfl
theorem cells_to {R : Rob} (h : R.to_ = -1) : cellsL R = [R.cell] := by unfold cellsL; rw [if_pos (.inl h)]
/-- What a step does to what can be seen. -/
structure StayP (R : Rob) : Prop where
  yes : stepB R = true → R.act.isSome = true ∧ (stepS R).done = nxt R.done
  no : stepB R = false → (stepS R).done = R.done
  two : (cellsL (stepS R)).length = 2 → actK R = 1 ∧ cellsL (stepS R) = [R.cell, actC R] ∧ cellsL R = [R.cell]
theorem stay_p {R : Rob} (ok : R.ok) : StayP R := by
  cases hact : R.act with
  | none =>
    have hB : stepB R = false := by unfold stepB; rw [hact]
    have hS : stepS R = R := by unfold stepS; rw [hact]
    refine ⟨(fun h => by rw [hB] at h; cases h), (fun _ => by rw [hS]), fun h => ?_⟩
    rw [hS] at h
    rcases ok.go with e | ⟨⟨p, e⟩, _⟩
    · rw [cells_to e] at h; simp at h
    · rw [hact] at e; cases e
  | some x =>
    obtain ⟨k, c, q⟩ := x
    have hB : stepB R = !(decide (k = 1) && decide (R.to_ = -1)) := by unfold stepB; rw [hact]
    have hS : stepS R = if k = 1 then (if R.to_ = -1 then (if 0 < R.charge then { R with charge := R.charge - 1, to_ := c } else R) else doneS { R with cell := R.to_, to_ := -1, charge := if R.to_ = R.dock then R.full else R.charge }) else doneS R := by unfold stepS; rw [hact]
    by_cases hk : k = 1
    · subst hk
      by_cases ht : R.to_ = -1
      · have hB0 : stepB R = false := by rw [hB, decide_eq_true ht]; rfl
        by_cases hc : 0 < R.charge
        · have hS2 : stepS R = { R with charge := R.charge - 1, to_ := c } := by rw [hS, if_pos rfl, if_pos ht, if_pos hc]
          refine ⟨(fun h => by rw [hB0] at h; cases h), (fun _ => by rw [hS2]), fun h => ?_⟩
          rw [hS2] at h ⊢
          refine ⟨by unfold actK; rw [hact], ?_, cells_to ht⟩
          unfold cellsL at h ⊢
          split at h
          · simp at h
          · rename_i hn
            rw [if_neg hn]; unfold actC; rw [hact]
        · have hS2 : stepS R = R := by rw [hS, if_pos rfl, if_pos ht, if_neg hc]
          refine ⟨(fun h => by rw [hB0] at h; cases h), (fun _ => by rw [hS2]), fun h => ?_⟩
          rw [hS2, cells_to ht] at h; simp at h
      · have hS2 : stepS R = doneS { R with cell := R.to_, to_ := -1, charge := if R.to_ = R.dock then R.full else R.charge } := by rw [hS, if_pos rfl, if_neg ht]
        have hB1 : stepB R = true := by rw [hB, decide_eq_false ht]; rfl
        refine ⟨fun _ => ⟨by rw [hact]; rfl, by rw [hS2, doneS_done]⟩, fun h => (by rw [hB1] at h; cases h), fun h => ?_⟩
        rw [hS2, cells_to (doneS_to _)] at h; simp at h
    · have hS2 : stepS R = doneS R := by rw [hS, if_neg hk]
      have hB1 : stepB R = true := by rw [hB, decide_eq_false hk]; rfl
      have ht : R.to_ = -1 := by
        rcases ok.go with e | ⟨⟨p', e⟩, _⟩
        · exact e
        · rw [hact] at e
          simp only [Option.some.injEq, Prod.mk.injEq] at e
          exact absurd e.1 hk
      refine ⟨fun _ => ⟨by rw [hact]; rfl, by rw [hS2, doneS_done]⟩, fun h => (by rw [hB1] at h; cases h), fun h => ?_⟩
      rw [hS2, cells_to ((doneS_to R).trans ht)] at h; simp at h
/-- What is heard changes nothing of that. -/
structure SameSeen (R R' : Rob) : Prop where
  cells : cellsL R' = cellsL R
  charge : R'.charge = R.charge
  done : R'.done = R.done
theorem hear_seen (R : Rob) (F : List Nat) : SameSeen R (hearS R F) := ⟨rfl, rfl, rfl⟩
theorem heard_seen (R : Rob) (F : List Nat) : SameSeen R (heardS R F) := ⟨rfl, rfl, rfl⟩
end Go.Proofs.Ytbafdfkmakehnaa

namespace Go.Proofs.Ytbafdfkmakehnaa
set_option linter.unusedVariables false
set_option linter.unusedSimpArgs false
open Go.RowKit

structure StR (w0 : World) (p ph ps : Nat) (R : Rob) (w : World) : Prop where
  a : RobA w0 p ph ps R w
  ok : R.ok

theorem StR.no {w0 w w' : World} {p ph ps : Nat} {R : Rob} (h : StR w0 p ph ps R w) (hk : Kp No w w') : StR w0 p ph ps R w' := ⟨h.a.no hk, h.ok⟩

set_option maxHeartbeats 4000000 in
set_option maxRecDepth 100000 in
theorem robstays_any {w : World} {v : Value} {l : List A18} (hv : Rd AK18 w v l) (hg : ∀ x ∈ l, x.ok w) (dock : Nat) (hdk : dock < 256) (charge : Int) (hcb : charge ≤ 9223372036854775807) : Calls Try.prog 6 #[.int .u8 (dock : Int), .int .i64 charge, v] w (LawR w) := by
  obtain ⟨A, cap, rfl⟩ := hv.shape
  obtain ⟨ch, hch⟩ : ∃ ch : Int, ch = if 0 ≤ charge then charge else 0 := ⟨_, rfl⟩
  have hch0 : 0 ≤ ch := by rw [hch]; split <;> omega
  have hchb : ch ≤ 9223372036854775807 := by rw [hch]; split <;> omega
  have hcase : ((0 : Int) ≤ charge ∧ ch = charge) ∨ (charge < 0 ∧ ch = 0) := by
    rw [hch]
    by_cases z : 0 ≤ charge
    · exact .inl ⟨z, if_pos z⟩
    · exact .inr ⟨by omega, if_neg z⟩
  have H := Lib.hid hv; have HG := Lib.hid hg; have HC := Lib.hid hch; have HCB := Lib.hid hchb
  have HC0 := Lib.hid hch0
  clear hv hg hch hcb hchb
  go_enter Try.func6, Try.ntmps6
  go_wp2_with fail
  refine (shown18 _).mono ?_
  rintro e w1 ⟨rfl, k1⟩
  have K1 := Lib.hid k1
  clear k1
  go_upto_region 2 with fail
  go_cut [8, 9] (fun a b wx => ∃ p ph ps R, a = .pointer (some ⟨p, 0, none⟩) ∧ b = .int .i64 0 ∧ StR w p ph ps R wx)
  case first =>
    rcases hcase with ⟨z, rfl⟩ | ⟨z, rfl⟩
    all_goals
      go_wp2_with fail
      refine (newA dock _ w1).mono ?_
      rintro e w2 (⟨h, _⟩ | ⟨he, p, ph, ps, rfl, a2⟩)
      · exact absurd h (by have := HC0.out; unfold newRobE; simp; omega)
      have P2 : Hid (StR w p ph ps _ w2) := Lib.hid ⟨a2.low K1.out, newRob_ok he HCB.out⟩
      clear a2 he
      go_wp2
      go_meet
      exact ⟨_, _, _, _, rfl, rfl, P2.out⟩
  case rest =>
    obtain ⟨p, ph, ps, R0, rfl, rfl, P0⟩ := hcut
    have P3 := Lib.hid P0
    clear P0 hcase
    go_wp2_with fail
    refine (few18_any (H.out.kpNo P3.out.a.kp)).mono ?_
    rintro e w4 ⟨v4, m, rfl, hm, f1, hm1, f2, rfl⟩
    have f1 := f1 w H.out
    obtain ⟨fl, hfl⟩ : ∃ fl, fl = l.take m := ⟨_, rfl⟩
    rw [← hfl] at f1 f2
    obtain ⟨A4, c4, rfl⟩ := f1.shape
    have hfg : ∀ x ∈ fl, x.ok w := fun x hx => HG.out x (by rw [hfl] at hx; exact List.mem_of_mem_take hx)
    have hfl100 : fl.length ≤ 150 := by rw [hfl, List.length_take]; omega
    have HF1 := Lib.hid f1; have HF2 := Lib.hid f2; have HFG := Lib.hid hfg
    clear f1 f2 hfg hfl hm hm1
    go_wp2_with fail
    go_loopg [10, 38] (fl.length + 1) (fun g nn i wr => ∃ k : Nat, g = fl.length + 1 - k ∧ i = .int .i64 k ∧ k ≤ fl.length ∧ ∃ n : Nat, nn = .int .u64 (n : Int) ∧ n ≤ k ∧ ∃ R, StR w p ph ps R wr)
    case atStart => exact ⟨0, rfl, rfl, by omega, 0, rfl, by omega, _, P3.out⟩
    case round =>
      obtain ⟨k, hgh, rfl, hk, n, rfl, hnk0, R, P⟩ := hrel
      have PP := Lib.hid P
      clear P
      by_cases hlt : k < fl.length
      · have hltI : (k : Int) < (fl.length : Int) := by omega
        have hwk : IntKind.i64.wrap ((k : Int) + 1) = (k : Int) + 1 := IntWalk.i64_in _ (by omega)
        obtain ⟨x, hx⟩ : ∃ x, fl[k]? = some x := ⟨_, List.getElem?_eq_getElem hlt⟩
        have hxo := HFG.out x (List.mem_of_getElem? hx)
        have hx3 := HF2.out x (List.mem_of_getElem? hx)
        rcases HF1.out with ⟨_, he⟩ | ⟨g, o, cap', hv, _⟩
        · rw [he] at hlt; simp at hlt
        simp only [Value.slice.injEq] at hv
        obtain ⟨rfl, _, rfl⟩ := hv
        obtain ⟨hc0, hc1, hc2, hc3, hc4, hc5⟩ := (HF1.out.kpNo PP.out.a.kp).act18At hx
        have XO := Lib.hid hxo
        have HX3 := Lib.hid (show x.s.b.length ≤ 1000000 by omega)
        obtain ⟨km, hkm⟩ : ∃ km, km = x.k % 6 := ⟨_, rfl⟩
        have kmI : (x.k : Int) % 6 = (km : Int) := by omega
        have hk256 := hxo.2.1
        have hkm6 : km < 6 := by omega
        have HLT := Lib.hid (show k + 1 ≤ fl.length by omega)
        have hnk : n ≤ k + 1 := by omega
        have hnk2 : n < 1000 := by omega
        clear hx hxo hx3 hkm hlt
        obtain ⟨bx, hbx⟩ : ∃ bx, bx = wr.heap.size := ⟨_, rfl⟩
        obtain ⟨wb, hwb⟩ : ∃ wb, wb = wr.alloc (.cells #[.int .u8 (x.k : Int), .int .u8 (x.xk : Int), .int .i64 x.xc, .int .i64 x.xp, .int .u64 (x.n : Int), .slice x.s.A x.s.b.length x.s.c] 53) := ⟨_, rfl⟩
        have PB := Lib.hid (show StR w p ph ps R wb by rw [hwb]; exact PP.out.no ((Kp.refl No wr).alloc _))
        have BX : Hid (wb.heap[bx]? = some (.cells #[.int .u8 (x.k : Int), .int .u8 (x.xk : Int), .int .i64 x.xc, .int .i64 x.xp, .int .u64 (x.n : Int), .slice x.s.A x.s.b.length x.s.c] 53 (0, 0))) := Lib.hid (by rw [hwb, hbx]; exact blk_new wr _)
        go_wp2_with fail
        rw [← hwb, ← hbx]
        clear hwb hbx hc0 hc1 hc2 hc3 hc4 hc5
        refine (cellsA PB.out.a).mono ?_
        rintro e w5 ⟨v13, rfl, n5⟩
        obtain ⟨A13, c13, rfl⟩ := n5.own.rd.shape
        have PW := Lib.hid (PB.out.no n5.kp); have IW := Lib.hid n5.own; have BXW := Lib.hid (n5.kp.blk BX.out (no_no _))
        clear n5
        go_wp2_with fail
        refine (chargeA PW.out.a).mono ?_
        rintro e wz ⟨rfl, rfl⟩
        go_wp2_with fail
        refine (doneA PW.out.a).mono ?_
        rintro e wz ⟨rfl, rfl⟩
        have q0 : w5.cell? ⟨bx, 0, none⟩ = some (.int .u8 (x.k : Int)) := (blk_cell BXW.out 0).trans rfl
        have q1 : w5.cell? ⟨bx, 1, none⟩ = some (.int .u8 (x.xk : Int)) := (blk_cell BXW.out 1).trans rfl
        have q2 : w5.cell? ⟨bx, 2, none⟩ = some (.int .i64 x.xc) := (blk_cell BXW.out 2).trans rfl
        have q3 : w5.cell? ⟨bx, 3, none⟩ = some (.int .i64 x.xp) := (blk_cell BXW.out 3).trans rfl
        have q4 : w5.cell? ⟨bx, 4, none⟩ = some (.int .u64 (x.n : Int)) := (blk_cell BXW.out 4).trans rfl
        have q5 : w5.cell? ⟨bx, 5, none⟩ = some (.slice x.s.A x.s.b.length x.s.c) := (blk_cell BXW.out 5).trans rfl
        go_upto_block 2 with fail
        go_cut [10, 50] (fun nn _ wx => (∃ n' : Nat, nn = .int .u64 (n' : Int) ∧ n' ≤ k + 1) ∧ ∃ R', StR w p ph ps R' wx ∧ SameSeen R R' ∧ Own IK 3 wx (.slice A13 (cellsL R).length c13) (cellsL R))
        case first =>
          have hm6 : km = 0 ∨ km = 1 ∨ km = 2 ∨ km = 3 ∨ km = 4 ∨ km = 5 := by omega
          rcases hm6 with rfl | rfl | rfl | rfl | rfl | rfl
          · as_aux_lemma =>
              have hw1 : IntKind.u64.wrap ((n : Int) + 1) = (n : Int) + 1 := IntWalk.u64_in _ (by omega)
              have HN1 := Lib.hid (show (n : Int) + 1 = ((n + 1 : Nat) : Int) by omega)
              go_wp2_with fail
              refine (packet18_any (n + 1) x.xk x.xc x.xp (by omega) XO.out.2.2.1 _ _ HN1.out).mono ?_
              rintro e w6 ⟨v6, rfl, k6⟩
              have P6 := Lib.hid (PW.out.no k6.kp); have I6 := Lib.hid (IW.out.kpNo k6.kp); have K6 := Lib.hid k6
              obtain ⟨F, hF⟩ : ∃ F, F = pktA (n + 1) x.xk x.xc x.xp := ⟨_, rfl⟩
              rw [← hF] at K6
              have hFl : F.length ≤ 1000000 := by rw [hF]; exact pktA_len _ _ _ _ (by omega)
              have HFX := Lib.hid (show ∀ z ∈ F, z < 256 by rw [hF]; exact pktA_lt _ _ _ _)
              clear k6 hF
              go_wp2_with fail
              refine (hearA P6.out.a P6.out.ok K6.out.own.rd hFl HFX.out).mono ?_
              rintro e w7 ⟨v7, rfl, _, _, a7, y7⟩
              have I7 := Lib.hid (y7.own I6.out (by decide))
              have P7 : Hid (StR w p ph ps (hearS R F) w7) := Lib.hid ⟨a7, hearS_ok P6.out.ok _⟩
              clear a7 y7
              go_wp2_with fail
              go_meet
              exact ⟨⟨n + 1, rfl, by omega⟩, _, P7.out, hear_seen _ _, I7.out⟩
          · as_aux_lemma =>
              go_wp2_with fail
              refine (packet18_any x.n x.xk x.xc x.xp XO.out.2.2.2 XO.out.2.2.1 _ _ rfl).mono ?_
              rintro e w6 ⟨v6, rfl, k6⟩
              have P6 := Lib.hid (PW.out.no k6.kp); have I6 := Lib.hid (IW.out.kpNo k6.kp); have K6 := Lib.hid k6
              obtain ⟨F, hF⟩ : ∃ F, F = pktA x.n x.xk x.xc x.xp := ⟨_, rfl⟩
              rw [← hF] at K6
              have hFl : F.length ≤ 1000000 := by rw [hF]; exact pktA_len _ _ _ _ XO.out.2.2.2
              have HFX := Lib.hid (show ∀ z ∈ F, z < 256 by rw [hF]; exact pktA_lt _ _ _ _)
              clear k6 hF
              go_wp2_with fail
              refine (hearA P6.out.a P6.out.ok K6.out.own.rd hFl HFX.out).mono ?_
              rintro e w7 ⟨v7, rfl, _, _, a7, y7⟩
              have I7 := Lib.hid (y7.own I6.out (by decide))
              have P7 : Hid (StR w p ph ps (hearS R F) w7) := Lib.hid ⟨a7, hearS_ok P6.out.ok _⟩
              clear a7 y7
              go_wp2_with fail
              go_meet
              exact ⟨⟨n, rfl, by omega⟩, _, P7.out, hear_seen _ _, I7.out⟩
          · as_aux_lemma =>
              go_wp2_with fail
              refine (nextA PW.out.a).mono ?_
              rintro e w6 ⟨rfl, k6⟩
              have P6 := Lib.hid (PW.out.no k6); have I6 := Lib.hid (IW.out.kpNo k6)
              clear k6
              obtain ⟨b16, hb16⟩ : ∃ b16, b16 = w6.heap.size := ⟨_, rfl⟩
              have X6 : Hid ((w6.alloc (.cells #[.int .u8 (actK R : Int), .int .i64 (actC R), .int .i64 (actP R)] 32)).heap[b16]? = some (.cells #[.int .u8 (actK R : Int), .int .i64 (actC R), .int .i64 (actP R)] 32 (0, 0))) := Lib.hid (by rw [hb16]; exact blk_new w6 _)
              have P6a := Lib.hid (P6.out.no ((Kp.refl No w6).alloc (.cells #[.int .u8 (actK R : Int), .int .i64 (actC R), .int .i64 (actP R)] 32))); have I6a := Lib.hid (I6.out.alloc (.cells #[.int .u8 (actK R : Int), .int .i64 (actC R), .int .i64 (actP R)] 32))
              obtain ⟨sm, hsm⟩ : ∃ sm, sm = R.act.isSome := ⟨_, rfl⟩
              have HSM := Lib.hid hsm
              rw [← hsm]
              clear hsm
              go_wp2_with fail
              rw [← hb16]
              refine (stepA P6a.out.a P6a.out.ok).mono ?_
              rintro e w7 ⟨rfl, a7, y7⟩
              have I7 := Lib.hid (y7.own I6a.out (by decide))
              have P7 : Hid (StR w p ph ps (stepS R) w7) := Lib.hid ⟨a7, stepS_ok P6a.out.ok⟩
              have X7 : Hid (w7.heap[b16]? = some (.cells #[.int .u8 (actK R : Int), .int .i64 (actC R), .int .i64 (actP R)] 32 (0, 0))) := Lib.hid (y7.choose_spec.1.blk X6.out (y7.choose_spec.2.not X6.out (by decide)))
              obtain ⟨sb, hsb⟩ : ∃ sb, sb = stepB R := ⟨_, rfl⟩
              have HSB := Lib.hid hsb
              rw [← hsb]
              obtain ⟨R', hR'⟩ : ∃ R', R' = stepS R := ⟨_, rfl⟩
              rw [← hR'] at P7
              have HR' := Lib.hid hR'
              clear a7 y7 hsb hR' hb16
              go_wp2_with fail
              refine (cellsA P7.out.a).mono ?_
              rintro e w8 ⟨v8, rfl, n8⟩
              obtain ⟨L8, hL8⟩ : ∃ L8, L8 = cellsL R' := ⟨_, rfl⟩
              rw [← hL8] at n8
              obtain ⟨A8, c8, rfl⟩ := n8.own.rd.shape
              have P8 := Lib.hid (P7.out.no n8.kp); have I8 := Lib.hid (I7.out.kpNo n8.kp); have N8 := Lib.hid n8; have X8 := Lib.hid (n8.kp.blk X7.out (no_no _))
              have hl12 := cellsL_len R'
              rw [← hL8] at hl12
              have HL8 := Lib.hid hL8
              have SP := Lib.hid (stay_p PW.out.ok)
              have hdn : (sb = true → sm = true ∧ R'.done = nxt R.done) ∧ (sb = false → R'.done = R.done) := by rw [HSB.out, HSM.out, HR'.out]; exact ⟨SP.out.yes, SP.out.no⟩
              obtain ⟨dn', hdn'⟩ : ∃ dn', dn' = R'.done := ⟨_, rfl⟩
              obtain ⟨dn, hdn0⟩ : ∃ dn, dn = R.done := ⟨_, rfl⟩
              rw [← hdn', ← hdn0] at hdn
              have HDN' := Lib.hid hdn'
              have HDN := Lib.hid hdn0
              have hw := done_wrap dn
              rw [← hdn0]
              clear n8 hL8 hdn' hdn0
              have hcs : (sb = true ∧ sm = true ∧ dn' = nxt dn) ∨ (sb = false ∧ dn' = dn) := by
                cases sb
                · exact .inr ⟨rfl, hdn.2 rfl⟩
                · exact .inl ⟨rfl, hdn.1 rfl⟩
              clear hdn
              have DNC : Hid (∀ w', Kp No w8 w' → Calls Try.prog 14 #[.pointer (some ⟨p, 0, none⟩)] w' fun e w'' => e = .returned (.int .u64 (dn' : Int)) ∧ w' = w'') := Lib.hid fun w' hk => by rw [HDN'.out]; exact doneA (P8.out.no hk).a
              have hl2 : (L8.length : Int) = 1 ∨ (L8.length : Int) = 2 := by omega
              rcases hcs with ⟨rfl, rfl, rfl⟩ | ⟨rfl, rfl⟩
              all_goals
                rcases hl12 with hl1 | hl1
                · have hlI : (L8.length : Int) = 1 := by omega
                  rw [hl1]
                  clear hl1 hlI hl2
                  go_wp2_with fail
                  refine (DNC.out _ (Kp.refl _ _)).mono ?_
                  rintro e wz ⟨rfl, rfl⟩
                  go_wp2_with fail
                  go_quiet (fail)
                  go_wp2
                  go_roundg (fl.length + 1 - (k + 1))
                  case measure => omega
                  case rel => exact ⟨k + 1, rfl, by go_num, HLT.out, n, rfl, by omega, _, (P8.out.no ((Kp.refl No _).drewN _))⟩
                · have h2 := SP.out.two (by rw [← HR'.out, ← HL8.out]; exact hl1)
                  rw [← HR'.out, ← HL8.out] at h2
                  obtain ⟨t1, t2, t3⟩ := h2
                  have ia := N8.out.own.rd
                  have ib := I8.out.rd
                  rw [t2] at ia
                  rw [t3] at ib
                  have hx16 : w8.cell? ⟨b16, 0, none⟩ = some (.int .u8 1) := (blk_cell X8.out 0).trans (by rw [t1]; rfl)
                  have hx17 : w8.cell? ⟨b16, 1, none⟩ = some (.int .i64 (actC R)) := (blk_cell X8.out 1).trans rfl
                  have hA8 : ∃ g8 o8, A8 = some ⟨g8, o8, none⟩ ∧ w8.cell? ⟨g8, o8, none⟩ = some (.int .i64 R.cell) ∧ w8.cell? ⟨g8, o8 + 1, none⟩ = some (.int .i64 (actC R)) := by
                    rcases N8.out.own.rd with ⟨_, e⟩ | ⟨g8, o8, cp, e, _⟩
                    · rw [t2] at e; cases e
                    · simp only [Value.slice.injEq] at e
                      obtain ⟨rfl, _, rfl⟩ := e
                      have e0 := N8.out.own.rd.intAt (i := 0) (x := R.cell) (by rw [t2]; rfl)
                      have e1 := N8.out.own.rd.intAt (i := 1) (x := actC R) (by rw [t2]; rfl)
                      exact ⟨g8, o8, rfl, e0, e1⟩
                  have hA4 : ∃ g4 o4, A13 = some ⟨g4, o4, none⟩ ∧ w8.cell? ⟨g4, o4, none⟩ = some (.int .i64 R.cell) := by
                    rcases I8.out.rd with ⟨_, e⟩ | ⟨g4, o4, cp, e, _⟩
                    · rw [t3] at e; cases e
                    · simp only [Value.slice.injEq] at e
                      obtain ⟨rfl, _, rfl⟩ := e
                      have e0 := I8.out.rd.intAt (i := 0) (x := R.cell) (by rw [t3]; rfl)
                      exact ⟨g4, o4, rfl, e0⟩
                  obtain ⟨g8, o8, rfl, y0, y1⟩ := hA8
                  obtain ⟨g4, o4, rfl, y4⟩ := hA4
                  have hL4 : (cellsL R).length = 1 := by rw [t3]; rfl
                  rw [hl1, hL4]
                  obtain ⟨ac, hac⟩ : ∃ ac, ac = actC R := ⟨_, rfl⟩
                  rw [← hac] at hx17 y1
                  clear hl1 hl2 t1 t2 t3 ia ib hL4 hac
                  go_wp2_with fail
                  refine (DNC.out _ (Kp.refl _ _)).mono ?_
                  rintro e wz ⟨rfl, rfl⟩
                  go_wp2_with fail
                  go_quiet (fail)
                  go_wp2
                  go_roundg (fl.length + 1 - (k + 1))
                  case measure => omega
                  case rel => exact ⟨k + 1, rfl, by go_num, HLT.out, n, rfl, by omega, _, (P8.out.no ((Kp.refl No _).drewN _))⟩
          · as_aux_lemma =>
              go_wp2_with fail
              refine (heardA PW.out.a (XO.out.1.1.kpNo PW.out.a.kp) HX3.out XO.out.1.2).mono ?_
              rintro e w7 ⟨rfl, a7, y7⟩
              have I7 := Lib.hid (y7.own IW.out (by decide))
              have P7 : Hid (StR w p ph ps (heardS R x.s.b) w7) := Lib.hid ⟨a7, heardS_ok PW.out.ok _⟩
              clear a7 y7
              go_wp2_with fail
              go_meet
              exact ⟨⟨_, rfl, hnk⟩, _, P7.out, heard_seen _ _, I7.out⟩
          · as_aux_lemma =>
              go_wp2_with fail
              refine (hearA PW.out.a PW.out.ok (XO.out.1.1.kpNo PW.out.a.kp) HX3.out XO.out.1.2).mono ?_
              rintro e w7 ⟨v7, rfl, _, _, a7, y7⟩
              have I7 := Lib.hid (y7.own IW.out (by decide))
              have P7 : Hid (StR w p ph ps (hearS R x.s.b) w7) := Lib.hid ⟨a7, hearS_ok PW.out.ok _⟩
              clear a7 y7
              go_wp2_with fail
              go_meet
              exact ⟨⟨_, rfl, hnk⟩, _, P7.out, hear_seen _ _, I7.out⟩
          · as_aux_lemma =>
              go_wp2_with fail
              refine (heardA PW.out.a (XO.out.1.1.kpNo PW.out.a.kp) HX3.out XO.out.1.2).mono ?_
              rintro e w7 ⟨rfl, a7, y7⟩
              have I7 := Lib.hid (y7.own IW.out (by decide))
              have P7 : Hid (StR w p ph ps (heardS R x.s.b) w7) := Lib.hid ⟨a7, heardS_ok PW.out.ok _⟩
              clear a7 y7
              go_wp2_with fail
              go_meet
              exact ⟨⟨_, rfl, hnk⟩, _, P7.out, heard_seen _ _, I7.out⟩
        case rest =>
          obtain ⟨⟨n', rfl, hn'⟩, R', P', SS, I'⟩ := hcut
          have PD := Lib.hid P'; have ID := Lib.hid I'; have HSS := Lib.hid SS
          clear P' I' SS
          obtain ⟨wD, rfl⟩ : ∃ wD : World, wD = wc := ⟨_, rfl⟩
          go_wp2_with fail
          refine (cellsA PD.out.a).mono ?_
          rintro e w6 ⟨v6, rfl, n6⟩
          rw [HSS.out.cells] at n6
          obtain ⟨A6, c6, rfl⟩ := n6.own.rd.shape
          have PE := Lib.hid (PD.out.no n6.kp); have IE := Lib.hid (ID.out.kpNo n6.kp); have N6 := Lib.hid n6
          clear n6
          go_wp2_with fail
          refine (sameInts_any N6.out.own.rd IE.out.rd true (by simp)).mono ?_
          rintro e w7 ⟨rfl, k7⟩
          have PF := Lib.hid (PE.out.no k7)
          clear k7
          go_wp2_with fail
          refine (chargeA PF.out.a).mono ?_
          rintro e wz ⟨rfl, rfl⟩
          rw [HSS.out.charge]
          go_wp2_with fail
          refine (doneA PF.out.a).mono ?_
          rintro e wz ⟨rfl, rfl⟩
          rw [HSS.out.done]
          go_wp2
          go_roundg (fl.length + 1 - (k + 1))
          case measure => omega
          case rel => exact ⟨k + 1, rfl, by go_num, HLT.out, n', rfl, hn', _, PF.out⟩
      · obtain rfl : k = fl.length := by omega
        have hd0 : ¬ (fl.length : Int) < (fl.length : Int) := by omega
        clear hlt
        go_wp2
        go_ret
        exact ⟨rfl, PP.out.a.kp⟩
end Go.Proofs.Ytbafdfkmakehnaa

namespace Go.Proofs.Ytbafdfkmakehnaa
set_option linter.unusedVariables false
set_option linter.unusedSimpArgs false
open Go.ChangeShapes Go.WideShapes Go.ChangeAt Go.RowKit Go.Joins
theorem robstays_row {w : World} {v : Value} {l : List A18} (hv : Rd AK18 w v l) (hg : ∀ x ∈ l, x.ok w) (x y : Int) (hx : (Lit.int .u8 x).wf = true) (hy : (Lit.int .i64 y).wf = true) : Calls Try.prog 6 #[.int .u8 x, .int .i64 y, v] w (LawR w) := by
  have b1 := bounds_u8 hx
  have b2 := bounds_i64 hy
  obtain ⟨n, rfl⟩ := Int.eq_ofNat_of_zero_le b1.1
  exact robstays_any hv hg n (by omega) y (by omega)
end Go.Proofs.Ytbafdfkmakehnaa
