/- carfaxref17: TakeAct; robots, as the laws use them: the state alone; carfaxref14: Sender; carfaxref14: Sender.Hear, Receiver; carfaxref18: Robot; carfaxref18: Robot: Step, Cells; robots: what packets do; the document's examples; Arguments that are slices of rows: what they read as. No function of the program. No condition. -/
import Derived.Test.YtbafdfkmakehnaaM5
import Derived.Test.YtbafdfkmakehnaaM2
import Derived.Test.YtbafdfkmakehnaaM3
import Derived.Test.YtbafdfkmakehnaaM4
import Derived.Lib.ConvBytes
import Derived.Test.YtbafdfkmakehnaaM1
import Derived.Deep.Slices
import Derived.ProofKit

namespace Go.Proofs.Ytbafdfkmakehnaa
set_option linter.unusedVariables false
set_option linter.unusedSimpArgs false
open Go.RowKit

set_option maxHeartbeats 1000000 in
set_option maxRecDepth 100000 in
theorem rtakeA_any {w : World} {v : Value} {B : List Nat} (h : Rd BK w v B) (hB : B.length ≤ 100000) (hx : ∀ x ∈ B, x < 256) : Calls Try.prog 51 #[v] w (TakeAR B w) := by
  obtain ⟨A, cap, rfl⟩ := h.shape
  obtain ⟨L, hL⟩ : ∃ L, L = unpackB B := ⟨_, rfl⟩
  obtain ⟨n1, hn1⟩ : ∃ n1, n1 = rgetN L 0 0 2 := ⟨_, rfl⟩
  obtain ⟨f1, hf1⟩ : ∃ f1, f1 = rgetF L 0 0 2 := ⟨_, rfl⟩
  obtain ⟨k, hk⟩ : ∃ k, k = rgetV L 0 0 2 := ⟨_, rfl⟩
  obtain ⟨n2, hn2⟩ : ∃ n2, n2 = rgetN L n1 f1 8 := ⟨_, rfl⟩
  obtain ⟨f2, hf2⟩ : ∃ f2, f2 = rgetF L n1 f1 8 := ⟨_, rfl⟩
  obtain ⟨c, hc⟩ : ∃ c, c = rgetV L n1 f1 8 := ⟨_, rfl⟩
  obtain ⟨n3, hn3⟩ : ∃ n3, n3 = rgetN L n2 f2 6 := ⟨_, rfl⟩
  obtain ⟨f3, hf3⟩ : ∃ f3, f3 = rgetF L n2 f2 6 := ⟨_, rfl⟩
  obtain ⟨p, hp⟩ : ∃ p, p = rgetV L n2 f2 6 := ⟨_, rfl⟩
  have T : TaV L n1 f1 n2 f2 n3 f3 k c p := ⟨hn1, hf1, hk, hn2, hf2, hc, hn3, hf3, hp⟩
  rw [hL] at T
  have hkl : k < 4 := by rw [hk]; exact rgetV_lt _ _ _ _
  have hcl : c < 256 := by rw [hc]; exact rgetV_lt _ _ _ _
  have hpl : p < 64 := by rw [hp]; exact rgetV_lt _ _ _ _
  have hl : L.length = 8 * B.length := by rw [hL]; exact unpackB_len B
  have hL8 : L.length ≤ 8000000 := by omega
  have hb1 : n1 ≤ L.length := by rw [hn1]; exact rgetN_le _ _ _ _ (by omega)
  have hb2 : n2 ≤ L.length := by rw [hn2]; exact rgetN_le _ _ _ _ (by omega)
  have HT := Lib.hid T
  have HL := Lib.hid hL
  have HN1 := Lib.hid hn1; have HF1 := Lib.hid hf1; have HK := Lib.hid hk; have HN2 := Lib.hid hn2; have HF2 := Lib.hid hf2; have HC := Lib.hid hc; have HN3 := Lib.hid hn3; have HF3 := Lib.hid hf3; have HP := Lib.hid hp
  have H := Lib.hid h; have HX := Lib.hid hx
  have i1 : (k : Int) < 256 := by omega
  have i2 : (c : Int) < 256 := by omega
  have i3 : (p : Int) < 64 := by omega
  obtain ⟨Y, hY⟩ : ∃ Y, Y = layA k (c : Int) (p : Int) := ⟨_, rfl⟩
  obtain ⟨E, hE⟩ : ∃ E, E = layAE k (c : Int) (p : Int) := ⟨_, rfl⟩
  have hcase : ((E != 0) = true ∧ tkaOk B = false) ∨ ((E != 0) = false ∧ Y ≠ B ∧ tkaOk B = false) ∨ ((E != 0) = false ∧ Y = B ∧ tkaOk B = true ∧ k = aK B ∧ c = aC B ∧ p = aP B) := by
    cases hm : mayA k (c : Int) (p : Int)
    · refine .inl ⟨by rw [hE]; unfold layAE; rw [hm]; rfl, ?_⟩
      unfold tkaOk
      by_cases hB2 : B.length = 2
      · obtain ⟨t1, t2, t3, _⟩ := T.two hB2
        rw [← t1, ← t2, ← t3, hm]; simp
      · simp [hB2]
    · have he : (E != 0) = false := by rw [hE]; unfold layAE; rw [hm]; rfl
      by_cases hB2 : B.length = 2
      · obtain ⟨t1, t2, t3, _⟩ := T.two hB2
        have ho : tkaOk B = true := by unfold tkaOk; rw [← t1, ← t2, ← t3, hm, hB2]; rfl
        exact .inr (.inr ⟨he, by rw [hY, t1, t2, t3]; exact lay_take hx ho, ho, t1, t2, t3⟩)
      · refine .inr (.inl ⟨he, fun e => hB2 ?_, by unfold tkaOk; simp [hB2]⟩)
        rw [← e, hY]; exact layA_len hm
  have HY := Lib.hid hY; have HE := Lib.hid hE
  have HYX := Lib.hid (show ∀ x ∈ Y, x < 256 by rw [hY]; exact layA_lt _ _ _)
  clear T h hx hl hL hn1 hf1 hk hn2 hf2 hc hn3 hf3 hp hY hE HT
  rcases hcase with ⟨hE1, hok⟩ | ⟨hE1, hne, hok⟩ | ⟨hE1, hYB, hok, t1, t2, t3⟩
  · have ERR : Hid (∀ w', Kp No w w' → TakeAR B w (.returned (.tuple #[.agg #[.int .u8 0, .int .i64 0, .int .i64 0], .int .i64 170])) w') := Lib.hid fun w' hk => by
      unfold TakeAR tkaK tkaC tkaP tkaE
      rw [hok]; exact ⟨rfl, hk⟩
    clear hok
    go_enter Try.func51, Try.ntmps51
    go_wp2_with fail
    refine (rof_any (H.out.kpNo ((Kp.refl No w).alloc _)) hB HX.out).mono ?_
    rintro e w1 ⟨q, rfl, V, a1⟩
    rw [← HL.out] at a1
    obtain ⟨br, hbr⟩ : ∃ br, br = w.heap.size := ⟨_, rfl⟩
    have R1 := Lib.hid (show w1.heap[br]? = some (.cells #[.int .u8 0, .int .i64 0, .int .i64 0] 32 (0, 0)) by rw [hbr]; exact a1.kp.blk (blk_new w _) (no_no _))
    have A1 := Lib.hid a1.at; have K1 := Lib.hid (show Kp No w w1 from ((Kp.refl No w).alloc _).trans a1.kp)
    have G1 := Lib.hid (show br < q by rw [hbr]; have := a1.po; simp at this; omega)
    have L1 := Lib.hid (show q < w1.heap.size from lt_of_block a1.blk)
    have VO := Lib.hid (show ∀ g, V.ownBlock = some g → br < g ∧ g < w1.heap.size from fun g hg => ⟨by have := a1.vo g hg; rw [hbr]; simp at this; omega, a1.own.lt hg⟩)
    have HBR := Lib.hid hbr
    rw [← hbr]
    clear a1 hbr
    go_wp2_with fail
    refine (qget_any A1.out hL8 (Nat.zero_le _) 2 (by decide) _ rfl).mono ?_
    rintro e w2 ⟨rfl, a2⟩
    rw [← HN1.out, ← HF1.out] at a2
    rw [← HK.out]
    have A2 := Lib.hid a2.here
    have R2 := Lib.hid (a2.kp.blk R1.out (fun e => by have e : br = q := e; have := G1.out; omega))
    have K2 := Lib.hid (K1.out.newer a2.kp (by have := G1.out; have := HBR.out; omega))
    have Z2 := Lib.hid (Nat.lt_of_lt_of_le L1.out a2.kp.size)
    have ZV := Lib.hid (show ∀ g, V.ownBlock = some g → br < g ∧ g < w2.heap.size from fun g hg => ⟨(VO.out g hg).1, Nat.lt_of_lt_of_le (VO.out g hg).2 a2.kp.size⟩)
    obtain ⟨bx, hbx⟩ : ∃ bx, bx = w2.heap.size := ⟨_, rfl⟩
    have HBX := Lib.hid hbx
    have hbrx : br < bx := by have := G1.out; have := Z2.out; omega
    clear a2
    go_wp2_with fail
    refine (qget_any (A2.out.kpNo ((Kp.refl No w2).alloc (.cells #[.int .u8 (k : Int), .int .i64 0, .int .i64 0] 32))).here hL8 hb1 8 (by decide) _ rfl).mono ?_
    rintro e w3 ⟨rfl, a3⟩
    rw [← HN2.out, ← HF2.out] at a3
    rw [← HC.out, ← hbx]
    have X3 := Lib.hid (show w3.heap[bx]? = some (.cells #[.int .u8 (k : Int), .int .i64 0, .int .i64 0] 32 (0, 0)) by rw [hbx]; exact a3.kp.blk (blk_new w2 _) (fun e => by have e : w2.heap.size = q := e; have := Z2.out; omega))
    have R3 := Lib.hid (a3.kp.blk (blk_alloc R2.out _) (fun e => by have e : br = q := e; have := G1.out; omega))
    have A3 := Lib.hid a3.here
    have K3 := Lib.hid ((K2.out.alloc _).newer a3.kp (by have := G1.out; have := HBR.out; omega))
    have y1 : w3.cell? ⟨bx, 1, none⟩ = some (.int .i64 0) := (blk_cell X3.out 1).trans rfl
    have y1f : w3.frozen? ⟨bx, 1, none⟩ = false := blk_free X3.out 1
    have NQ := Lib.hid (show ¬ (q = bx) by have := Z2.out; omega)
    have NV := Lib.hid (show ∀ g, V.ownBlock = some g → ¬ (g = bx) from fun g hg e => by have := (ZV.out g hg).2; omega)
    clear a3 hbx
    go_wp2_with fail
    refine (qget_any (A3.out.far (Kp.one (p := bx) 1 (.int .i64 (c : Int))) NQ.out NV.out) hL8 hb2 6 (by decide) _ rfl).mono ?_
    rintro e w4 ⟨rfl, a4⟩
    rw [← HN3.out, ← HF3.out] at a4
    rw [← HP.out]
    have X4 := Lib.hid (show w4.heap[bx]? = some (.cells #[.int .u8 (k : Int), .int .i64 (c : Int), .int .i64 0] 32 (0, 0)) from a4.kp.blk ((blk_set X3.out 1 _).trans rfl) (fun e => NQ.out e.symm))
    have R4 := Lib.hid (a4.kp.blk (blk_far R3.out (p := ⟨bx, 1, none⟩) (by show br ≠ bx; omega) (.int .i64 (c : Int))) (fun e => by have e : br = q := e; have := G1.out; omega))
    have K4 := Lib.hid ((K3.out.newer (Kp.one (p := bx) 1 (.int .i64 (c : Int))) (by have := HBR.out; omega)).newer a4.kp (by have := G1.out; have := HBR.out; omega))
    have y2 : w4.cell? ⟨bx, 2, none⟩ = some (.int .i64 0) := (blk_cell X4.out 2).trans rfl
    have y2f : w4.frozen? ⟨bx, 2, none⟩ = false := blk_free X4.out 2
    clear a4
    have X4s := blk_set X4.out 2 (.int .i64 (p : Int))
    have z0 : (w4.setCell ⟨bx, 2, none⟩ (.int .i64 (p : Int))).cell? ⟨bx, 0, none⟩ = some (.int .u8 (k : Int)) := (blk_cell X4s 0).trans rfl
    have z1 : (w4.setCell ⟨bx, 2, none⟩ (.int .i64 (p : Int))).cell? ⟨bx, 1, none⟩ = some (.int .i64 (c : Int)) := (blk_cell X4s 1).trans rfl
    have z2 : (w4.setCell ⟨bx, 2, none⟩ (.int .i64 (p : Int))).cell? ⟨bx, 2, none⟩ = some (.int .i64 (p : Int)) := (blk_cell X4s 2).trans rfl
    clear X4s
    go_wp2_with fail
    refine (layAct_any k (c : Int) (p : Int) (by omega) _).mono ?_
    rintro e w7 ⟨v7, rfl, k7⟩
    rw [← HE.out]
    rw [← HY.out] at k7
    obtain ⟨A7, c7, rfl⟩ := k7.own.rd.shape
    have X7 := Lib.hid (show w7.heap[bx]? = some (.cells #[.int .u8 (k : Int), .int .i64 (c : Int), .int .i64 (p : Int)] 32 (0, 0)) from k7.kp.blk ((blk_set X4.out 2 _).trans rfl) (no_no _))
    have R7 := Lib.hid (k7.kp.blk (blk_far R4.out (p := ⟨bx, 2, none⟩) (by show br ≠ bx; omega) (.int .i64 (p : Int))) (no_no _))
    have K7 := Lib.hid ((K4.out.newer (Kp.one (p := bx) 2 (.int .i64 (p : Int))) (by have := HBR.out; omega)).trans k7.kp)
    have s1 := k7.own.rd.str
    have s2 := (H.out.kpNo K7.out).str
    clear k7
    have u0 : w7.cell? ⟨br, 0, none⟩ = some (.int .u8 0) := (blk_cell R7.out 0).trans rfl
    have u1 : w7.cell? ⟨br, 1, none⟩ = some (.int .i64 0) := (blk_cell R7.out 1).trans rfl
    have u2 : w7.cell? ⟨br, 2, none⟩ = some (.int .i64 0) := (blk_cell R7.out 2).trans rfl
    have v0 : w7.frozen? ⟨br, 0, none⟩ = false := blk_free R7.out 0
    have v1 : w7.frozen? ⟨br, 1, none⟩ = false := blk_free R7.out 1
    have v2 : w7.frozen? ⟨br, 2, none⟩ = false := blk_free R7.out 2
    go_wp2
    have bE := blk_set (blk_set (blk_set R7.out 0 (.int .u8 0)) 1 (.int .i64 0)) 2 (.int .i64 0)
    have r0 := (blk_cell bE 0).trans rfl
    have r1 := (blk_cell bE 1).trans rfl
    have r2 := (blk_cell bE 2).trans rfl
    have kE := ((K7.out.newer (Kp.one (w := w7) (p := br) 0 (.int .u8 0)) (by have := HBR.out; omega)).newer (Kp.one (p := br) 1 (.int .i64 0)) (by have := HBR.out; omega)).newer (Kp.one (p := br) 2 (.int .i64 0)) (by have := HBR.out; omega)
    exact bodyPost_ret (v := .tuple #[.agg #[.int .u8 0, .int .i64 0, .int .i64 0], .int .i64 170]) (by simp [results, Try.results51, go_sem, r0, r1, r2]) rfl (ERR.out _ kE)
  · have sb := strB_beq HYX.out HX.out
    rw [decide_eq_false hne] at sb
    have sn : ((strB Y).toList != (strB B).toList) = true := by rw [bne, sb]; rfl
    have ERR : Hid (∀ w', Kp No w w' → TakeAR B w (.returned (.tuple #[.agg #[.int .u8 0, .int .i64 0, .int .i64 0], .int .i64 170])) w') := Lib.hid fun w' hk => by
      unfold TakeAR tkaK tkaC tkaP tkaE
      rw [hok]; exact ⟨rfl, hk⟩
    clear hok
    clear hne
    go_enter Try.func51, Try.ntmps51
    go_wp2_with fail
    refine (rof_any (H.out.kpNo ((Kp.refl No w).alloc _)) hB HX.out).mono ?_
    rintro e w1 ⟨q, rfl, V, a1⟩
    rw [← HL.out] at a1
    obtain ⟨br, hbr⟩ : ∃ br, br = w.heap.size := ⟨_, rfl⟩
    have R1 := Lib.hid (show w1.heap[br]? = some (.cells #[.int .u8 0, .int .i64 0, .int .i64 0] 32 (0, 0)) by rw [hbr]; exact a1.kp.blk (blk_new w _) (no_no _))
    have A1 := Lib.hid a1.at; have K1 := Lib.hid (show Kp No w w1 from ((Kp.refl No w).alloc _).trans a1.kp)
    have G1 := Lib.hid (show br < q by rw [hbr]; have := a1.po; simp at this; omega)
    have L1 := Lib.hid (show q < w1.heap.size from lt_of_block a1.blk)
    have VO := Lib.hid (show ∀ g, V.ownBlock = some g → br < g ∧ g < w1.heap.size from fun g hg => ⟨by have := a1.vo g hg; rw [hbr]; simp at this; omega, a1.own.lt hg⟩)
    have HBR := Lib.hid hbr
    rw [← hbr]
    clear a1 hbr
    go_wp2_with fail
    refine (qget_any A1.out hL8 (Nat.zero_le _) 2 (by decide) _ rfl).mono ?_
    rintro e w2 ⟨rfl, a2⟩
    rw [← HN1.out, ← HF1.out] at a2
    rw [← HK.out]
    have A2 := Lib.hid a2.here
    have R2 := Lib.hid (a2.kp.blk R1.out (fun e => by have e : br = q := e; have := G1.out; omega))
    have K2 := Lib.hid (K1.out.newer a2.kp (by have := G1.out; have := HBR.out; omega))
    have Z2 := Lib.hid (Nat.lt_of_lt_of_le L1.out a2.kp.size)
    have ZV := Lib.hid (show ∀ g, V.ownBlock = some g → br < g ∧ g < w2.heap.size from fun g hg => ⟨(VO.out g hg).1, Nat.lt_of_lt_of_le (VO.out g hg).2 a2.kp.size⟩)
    obtain ⟨bx, hbx⟩ : ∃ bx, bx = w2.heap.size := ⟨_, rfl⟩
    have HBX := Lib.hid hbx
    have hbrx : br < bx := by have := G1.out; have := Z2.out; omega
    clear a2
    go_wp2_with fail
    refine (qget_any (A2.out.kpNo ((Kp.refl No w2).alloc (.cells #[.int .u8 (k : Int), .int .i64 0, .int .i64 0] 32))).here hL8 hb1 8 (by decide) _ rfl).mono ?_
    rintro e w3 ⟨rfl, a3⟩
    rw [← HN2.out, ← HF2.out] at a3
    rw [← HC.out, ← hbx]
    have X3 := Lib.hid (show w3.heap[bx]? = some (.cells #[.int .u8 (k : Int), .int .i64 0, .int .i64 0] 32 (0, 0)) by rw [hbx]; exact a3.kp.blk (blk_new w2 _) (fun e => by have e : w2.heap.size = q := e; have := Z2.out; omega))
    have R3 := Lib.hid (a3.kp.blk (blk_alloc R2.out _) (fun e => by have e : br = q := e; have := G1.out; omega))
    have A3 := Lib.hid a3.here
    have K3 := Lib.hid ((K2.out.alloc _).newer a3.kp (by have := G1.out; have := HBR.out; omega))
    have y1 : w3.cell? ⟨bx, 1, none⟩ = some (.int .i64 0) := (blk_cell X3.out 1).trans rfl
    have y1f : w3.frozen? ⟨bx, 1, none⟩ = false := blk_free X3.out 1
    have NQ := Lib.hid (show ¬ (q = bx) by have := Z2.out; omega)
    have NV := Lib.hid (show ∀ g, V.ownBlock = some g → ¬ (g = bx) from fun g hg e => by have := (ZV.out g hg).2; omega)
    clear a3 hbx
    go_wp2_with fail
    refine (qget_any (A3.out.far (Kp.one (p := bx) 1 (.int .i64 (c : Int))) NQ.out NV.out) hL8 hb2 6 (by decide) _ rfl).mono ?_
    rintro e w4 ⟨rfl, a4⟩
    rw [← HN3.out, ← HF3.out] at a4
    rw [← HP.out]
    have X4 := Lib.hid (show w4.heap[bx]? = some (.cells #[.int .u8 (k : Int), .int .i64 (c : Int), .int .i64 0] 32 (0, 0)) from a4.kp.blk ((blk_set X3.out 1 _).trans rfl) (fun e => NQ.out e.symm))
    have R4 := Lib.hid (a4.kp.blk (blk_far R3.out (p := ⟨bx, 1, none⟩) (by show br ≠ bx; omega) (.int .i64 (c : Int))) (fun e => by have e : br = q := e; have := G1.out; omega))
    have K4 := Lib.hid ((K3.out.newer (Kp.one (p := bx) 1 (.int .i64 (c : Int))) (by have := HBR.out; omega)).newer a4.kp (by have := G1.out; have := HBR.out; omega))
    have y2 : w4.cell? ⟨bx, 2, none⟩ = some (.int .i64 0) := (blk_cell X4.out 2).trans rfl
    have y2f : w4.frozen? ⟨bx, 2, none⟩ = false := blk_free X4.out 2
    clear a4
    have X4s := blk_set X4.out 2 (.int .i64 (p : Int))
    have z0 : (w4.setCell ⟨bx, 2, none⟩ (.int .i64 (p : Int))).cell? ⟨bx, 0, none⟩ = some (.int .u8 (k : Int)) := (blk_cell X4s 0).trans rfl
    have z1 : (w4.setCell ⟨bx, 2, none⟩ (.int .i64 (p : Int))).cell? ⟨bx, 1, none⟩ = some (.int .i64 (c : Int)) := (blk_cell X4s 1).trans rfl
    have z2 : (w4.setCell ⟨bx, 2, none⟩ (.int .i64 (p : Int))).cell? ⟨bx, 2, none⟩ = some (.int .i64 (p : Int)) := (blk_cell X4s 2).trans rfl
    clear X4s
    go_wp2_with fail
    refine (layAct_any k (c : Int) (p : Int) (by omega) _).mono ?_
    rintro e w7 ⟨v7, rfl, k7⟩
    rw [← HE.out]
    rw [← HY.out] at k7
    obtain ⟨A7, c7, rfl⟩ := k7.own.rd.shape
    have X7 := Lib.hid (show w7.heap[bx]? = some (.cells #[.int .u8 (k : Int), .int .i64 (c : Int), .int .i64 (p : Int)] 32 (0, 0)) from k7.kp.blk ((blk_set X4.out 2 _).trans rfl) (no_no _))
    have R7 := Lib.hid (k7.kp.blk (blk_far R4.out (p := ⟨bx, 2, none⟩) (by show br ≠ bx; omega) (.int .i64 (p : Int))) (no_no _))
    have K7 := Lib.hid ((K4.out.newer (Kp.one (p := bx) 2 (.int .i64 (p : Int))) (by have := HBR.out; omega)).trans k7.kp)
    have s1 := k7.own.rd.str
    have s2 := (H.out.kpNo K7.out).str
    clear k7
    have u0 : w7.cell? ⟨br, 0, none⟩ = some (.int .u8 0) := (blk_cell R7.out 0).trans rfl
    have u1 : w7.cell? ⟨br, 1, none⟩ = some (.int .i64 0) := (blk_cell R7.out 1).trans rfl
    have u2 : w7.cell? ⟨br, 2, none⟩ = some (.int .i64 0) := (blk_cell R7.out 2).trans rfl
    have v0 : w7.frozen? ⟨br, 0, none⟩ = false := blk_free R7.out 0
    have v1 : w7.frozen? ⟨br, 1, none⟩ = false := blk_free R7.out 1
    have v2 : w7.frozen? ⟨br, 2, none⟩ = false := blk_free R7.out 2
    go_wp2
    have bE := blk_set (blk_set (blk_set R7.out 0 (.int .u8 0)) 1 (.int .i64 0)) 2 (.int .i64 0)
    have r0 := (blk_cell bE 0).trans rfl
    have r1 := (blk_cell bE 1).trans rfl
    have r2 := (blk_cell bE 2).trans rfl
    have kE := ((K7.out.newer (Kp.one (w := w7) (p := br) 0 (.int .u8 0)) (by have := HBR.out; omega)).newer (Kp.one (p := br) 1 (.int .i64 0)) (by have := HBR.out; omega)).newer (Kp.one (p := br) 2 (.int .i64 0)) (by have := HBR.out; omega)
    exact bodyPost_ret (v := .tuple #[.agg #[.int .u8 0, .int .i64 0, .int .i64 0], .int .i64 170]) (by simp [results, Try.results51, go_sem, r0, r1, r2]) rfl (ERR.out _ kE)
  · subst hYB
    have YES : Hid (∀ w', Kp No w w' → TakeAR Y w (.returned (.tuple #[.agg #[.int .u8 (k : Int), .int .i64 (c : Int), .int .i64 (p : Int)], .int .i64 0])) w') := Lib.hid fun w' hk => by
      unfold TakeAR tkaK tkaC tkaP tkaE
      rw [hok, ← t1, ← t2, ← t3]; exact ⟨rfl, hk⟩
    clear hok t1 t2 t3
    go_enter Try.func51, Try.ntmps51
    go_wp2_with fail
    refine (rof_any (H.out.kpNo ((Kp.refl No w).alloc _)) hB HX.out).mono ?_
    rintro e w1 ⟨q, rfl, V, a1⟩
    rw [← HL.out] at a1
    obtain ⟨br, hbr⟩ : ∃ br, br = w.heap.size := ⟨_, rfl⟩
    have R1 := Lib.hid (show w1.heap[br]? = some (.cells #[.int .u8 0, .int .i64 0, .int .i64 0] 32 (0, 0)) by rw [hbr]; exact a1.kp.blk (blk_new w _) (no_no _))
    have A1 := Lib.hid a1.at; have K1 := Lib.hid (show Kp No w w1 from ((Kp.refl No w).alloc _).trans a1.kp)
    have G1 := Lib.hid (show br < q by rw [hbr]; have := a1.po; simp at this; omega)
    have L1 := Lib.hid (show q < w1.heap.size from lt_of_block a1.blk)
    have VO := Lib.hid (show ∀ g, V.ownBlock = some g → br < g ∧ g < w1.heap.size from fun g hg => ⟨by have := a1.vo g hg; rw [hbr]; simp at this; omega, a1.own.lt hg⟩)
    have HBR := Lib.hid hbr
    rw [← hbr]
    clear a1 hbr
    go_wp2_with fail
    refine (qget_any A1.out hL8 (Nat.zero_le _) 2 (by decide) _ rfl).mono ?_
    rintro e w2 ⟨rfl, a2⟩
    rw [← HN1.out, ← HF1.out] at a2
    rw [← HK.out]
    have A2 := Lib.hid a2.here
    have R2 := Lib.hid (a2.kp.blk R1.out (fun e => by have e : br = q := e; have := G1.out; omega))
    have K2 := Lib.hid (K1.out.newer a2.kp (by have := G1.out; have := HBR.out; omega))
    have Z2 := Lib.hid (Nat.lt_of_lt_of_le L1.out a2.kp.size)
    have ZV := Lib.hid (show ∀ g, V.ownBlock = some g → br < g ∧ g < w2.heap.size from fun g hg => ⟨(VO.out g hg).1, Nat.lt_of_lt_of_le (VO.out g hg).2 a2.kp.size⟩)
    obtain ⟨bx, hbx⟩ : ∃ bx, bx = w2.heap.size := ⟨_, rfl⟩
    have HBX := Lib.hid hbx
    have hbrx : br < bx := by have := G1.out; have := Z2.out; omega
    clear a2
    go_wp2_with fail
    refine (qget_any (A2.out.kpNo ((Kp.refl No w2).alloc (.cells #[.int .u8 (k : Int), .int .i64 0, .int .i64 0] 32))).here hL8 hb1 8 (by decide) _ rfl).mono ?_
    rintro e w3 ⟨rfl, a3⟩
    rw [← HN2.out, ← HF2.out] at a3
    rw [← HC.out, ← hbx]
    have X3 := Lib.hid (show w3.heap[bx]? = some (.cells #[.int .u8 (k : Int), .int .i64 0, .int .i64 0] 32 (0, 0)) by rw [hbx]; exact a3.kp.blk (blk_new w2 _) (fun e => by have e : w2.heap.size = q := e; have := Z2.out; omega))
    have R3 := Lib.hid (a3.kp.blk (blk_alloc R2.out _) (fun e => by have e : br = q := e; have := G1.out; omega))
    have A3 := Lib.hid a3.here
    have K3 := Lib.hid ((K2.out.alloc _).newer a3.kp (by have := G1.out; have := HBR.out; omega))
    have y1 : w3.cell? ⟨bx, 1, none⟩ = some (.int .i64 0) := (blk_cell X3.out 1).trans rfl
    have y1f : w3.frozen? ⟨bx, 1, none⟩ = false := blk_free X3.out 1
    have NQ := Lib.hid (show ¬ (q = bx) by have := Z2.out; omega)
    have NV := Lib.hid (show ∀ g, V.ownBlock = some g → ¬ (g = bx) from fun g hg e => by have := (ZV.out g hg).2; omega)
    clear a3 hbx
    go_wp2_with fail
    refine (qget_any (A3.out.far (Kp.one (p := bx) 1 (.int .i64 (c : Int))) NQ.out NV.out) hL8 hb2 6 (by decide) _ rfl).mono ?_
    rintro e w4 ⟨rfl, a4⟩
    rw [← HN3.out, ← HF3.out] at a4
    rw [← HP.out]
    have X4 := Lib.hid (show w4.heap[bx]? = some (.cells #[.int .u8 (k : Int), .int .i64 (c : Int), .int .i64 0] 32 (0, 0)) from a4.kp.blk ((blk_set X3.out 1 _).trans rfl) (fun e => NQ.out e.symm))
    have R4 := Lib.hid (a4.kp.blk (blk_far R3.out (p := ⟨bx, 1, none⟩) (by show br ≠ bx; omega) (.int .i64 (c : Int))) (fun e => by have e : br = q := e; have := G1.out; omega))
    have K4 := Lib.hid ((K3.out.newer (Kp.one (p := bx) 1 (.int .i64 (c : Int))) (by have := HBR.out; omega)).newer a4.kp (by have := G1.out; have := HBR.out; omega))
    have y2 : w4.cell? ⟨bx, 2, none⟩ = some (.int .i64 0) := (blk_cell X4.out 2).trans rfl
    have y2f : w4.frozen? ⟨bx, 2, none⟩ = false := blk_free X4.out 2
    clear a4
    have X4s := blk_set X4.out 2 (.int .i64 (p : Int))
    have z0 : (w4.setCell ⟨bx, 2, none⟩ (.int .i64 (p : Int))).cell? ⟨bx, 0, none⟩ = some (.int .u8 (k : Int)) := (blk_cell X4s 0).trans rfl
    have z1 : (w4.setCell ⟨bx, 2, none⟩ (.int .i64 (p : Int))).cell? ⟨bx, 1, none⟩ = some (.int .i64 (c : Int)) := (blk_cell X4s 1).trans rfl
    have z2 : (w4.setCell ⟨bx, 2, none⟩ (.int .i64 (p : Int))).cell? ⟨bx, 2, none⟩ = some (.int .i64 (p : Int)) := (blk_cell X4s 2).trans rfl
    clear X4s
    go_wp2_with fail
    refine (layAct_any k (c : Int) (p : Int) (by omega) _).mono ?_
    rintro e w7 ⟨v7, rfl, k7⟩
    rw [← HE.out]
    rw [← HY.out] at k7
    obtain ⟨A7, c7, rfl⟩ := k7.own.rd.shape
    have X7 := Lib.hid (show w7.heap[bx]? = some (.cells #[.int .u8 (k : Int), .int .i64 (c : Int), .int .i64 (p : Int)] 32 (0, 0)) from k7.kp.blk ((blk_set X4.out 2 _).trans rfl) (no_no _))
    have R7 := Lib.hid (k7.kp.blk (blk_far R4.out (p := ⟨bx, 2, none⟩) (by show br ≠ bx; omega) (.int .i64 (p : Int))) (no_no _))
    have K7 := Lib.hid ((K4.out.newer (Kp.one (p := bx) 2 (.int .i64 (p : Int))) (by have := HBR.out; omega)).trans k7.kp)
    have s1 := k7.own.rd.str
    have s2 := (H.out.kpNo K7.out).str
    clear k7
    have x3 : w7.cell? ⟨bx, 0, none⟩ = some (.int .u8 (k : Int)) := (blk_cell X7.out 0).trans rfl
    have x4 : w7.cell? ⟨bx, 1, none⟩ = some (.int .i64 (c : Int)) := (blk_cell X7.out 1).trans rfl
    have x5 : w7.cell? ⟨bx, 2, none⟩ = some (.int .i64 (p : Int)) := (blk_cell X7.out 2).trans rfl
    have u0 : w7.cell? ⟨br, 0, none⟩ = some (.int .u8 0) := (blk_cell R7.out 0).trans rfl
    have u1 : w7.cell? ⟨br, 1, none⟩ = some (.int .i64 0) := (blk_cell R7.out 1).trans rfl
    have u2 : w7.cell? ⟨br, 2, none⟩ = some (.int .i64 0) := (blk_cell R7.out 2).trans rfl
    have v0 : w7.frozen? ⟨br, 0, none⟩ = false := blk_free R7.out 0
    have v1 : w7.frozen? ⟨br, 1, none⟩ = false := blk_free R7.out 1
    have v2 : w7.frozen? ⟨br, 2, none⟩ = false := blk_free R7.out 2
    go_wp2
    have bE := blk_set (blk_set (blk_set R7.out 0 (.int .u8 (k : Int))) 1 (.int .i64 (c : Int))) 2 (.int .i64 (p : Int))
    have r0 := (blk_cell bE 0).trans rfl
    have r1 := (blk_cell bE 1).trans rfl
    have r2 := (blk_cell bE 2).trans rfl
    have kE := ((K7.out.newer (Kp.one (w := w7) (p := br) 0 (.int .u8 (k : Int))) (by have := HBR.out; omega)).newer (Kp.one (p := br) 1 (.int .i64 (c : Int))) (by have := HBR.out; omega)).newer (Kp.one (p := br) 2 (.int .i64 (p : Int))) (by have := HBR.out; omega)
    exact bodyPost_ret (v := .tuple #[.agg #[.int .u8 (k : Int), .int .i64 (c : Int), .int .i64 (p : Int)], .int .i64 0]) (by simp [results, Try.results51, go_sem, r0, r1, r2]) rfl (YES.out _ kE)
end Go.Proofs.Ytbafdfkmakehnaa

namespace Go.Proofs.Ytbafdfkmakehnaa
set_option linter.unusedVariables false
set_option linter.unusedSimpArgs false
open Go.RowKit

/-- Only robots, receivers and senders were written. -/
def KeepB (w w' : World) : Prop := ∃ S, Kp S w w' ∧ Ty w S [76, 95, 93]
theorem KeepB.own {w w' : World} (h : KeepB w w') {α : Type} {K : Kd α} {e : TypeId} {v : Value} {l : List α} (o : Own K e w v l) (he : e ∉ [76, 95, 93]) : Own K e w' v l :=
  let ⟨_, hk, ht⟩ := h
  o.kp hk (ht.notO o he)
theorem KeepB.no {w w' : World} (hk : Kp No w w') : KeepB w w' := ⟨No, hk, fun _ h => h.elim⟩

/-- A robot that was made since w0. -/
structure RobA (w0 : World) (p ph ps : Nat) (R : Rob) (w : World) : Prop where
  ex : ∃ pa V, RobS p ph ps pa V R w
  kp : Kp No w0 w
  p0 : w0.heap.size ≤ p
  h0 : w0.heap.size ≤ ph
  s0 : w0.heap.size ≤ ps
section
variable {w0 w w' : World} {p ph ps : Nat} {R R' : Rob}
theorem RobA.no (h : RobA w0 p ph ps R w) (hk : Kp No w w') : RobA w0 p ph ps R w' := let ⟨pa, V, h1⟩ := h.ex; ⟨⟨pa, V, h1.no hk⟩, h.kp.no hk, h.p0, h.h0, h.s0⟩
theorem RobA.low {w1 : World} (h : RobA w1 p ph ps R w) (hk : Kp No w0 w1) : RobA w0 p ph ps R w := ⟨h.ex, hk.trans h.kp, Nat.le_trans hk.size h.p0, Nat.le_trans hk.size h.h0, Nat.le_trans hk.size h.s0⟩
theorem RobA.far {S : Nat → Prop} {ts : List TypeId} (h : RobA w0 p ph ps R w) (hk : Kp S w w') (hs : Ty w S ts) (ht : 76 ∉ ts ∧ 32 ∉ ts ∧ 95 ∉ ts ∧ 93 ∉ ts ∧ 5 ∉ ts) (hn : ∀ k, S k → w0.heap.size ≤ k) : RobA w0 p ph ps R w' :=
  let ⟨pa, V, h1⟩ := h.ex
  ⟨⟨pa, V, h1.far hk hs ht⟩, h.kp.trans' hk fun k hk e => by have := hn k e; omega, h.p0, h.h0, h.s0⟩
theorem RobTo.a {pa : Option Nat} {V : Value} (h : RobA w0 p ph ps R w) (ht : RobTo p ph ps pa V R' w w') : RobA w0 p ph ps R' w' :=
  let ⟨pa', V', h1, _, _⟩ := ht.tw
  ⟨⟨pa', V', h1⟩, h.kp.trans' ht.kp fun k hk e => by have := h.p0; have := h.h0; have := h.s0; omega, h.p0, h.h0, h.s0⟩

def NewA (dock charge : Int) (w : World) (e : Ending) (w' : World) : Prop :=
  (newRobE dock charge = true ∧ e = .returned (.tuple #[.pointer none, .int .i64 1]) ∧ w = w') ∨
    (newRobE dock charge = false ∧ ∃ p ph ps, e = .returned (.tuple #[.pointer (some ⟨p, 0, none⟩), .int .i64 0]) ∧ RobA w p ph ps (newRob dock charge) w')
theorem newA (dock charge : Int) (w : World) : Calls Try.prog 9 #[.int .i64 dock, .int .i64 charge] w (NewA dock charge w) :=
  (newRob_any dock charge w).mono fun _ _ h => h.imp id fun ⟨a, p, ph, ps, b, c, d, e, f, g⟩ => ⟨a, p, ph, ps, b, ⟨⟨_, _, c⟩, d, e, f, g⟩⟩
theorem chargeA (h : RobA w0 p ph ps R w) : Calls Try.prog 13 #[.pointer (some ⟨p, 0, none⟩)] w fun e w' => e = .returned (.int .i64 R.charge) ∧ w = w' := let ⟨_, _, h1⟩ := h.ex; charge_any h1
theorem doneA (h : RobA w0 p ph ps R w) : Calls Try.prog 14 #[.pointer (some ⟨p, 0, none⟩)] w fun e w' => e = .returned (.int .u64 (R.done : Int)) ∧ w = w' := let ⟨_, _, h1⟩ := h.ex; done_any h1
theorem cellsA (h : RobA w0 p ph ps R w) : Calls Try.prog 15 #[.pointer (some ⟨p, 0, none⟩)] w (CellsR (cellsL R) w) := let ⟨_, _, h1⟩ := h.ex; cells_any h1
theorem nextA (h : RobA w0 p ph ps R w) : Calls Try.prog 26 #[.pointer (some ⟨p, 0, none⟩)] w (NextR R w) := let ⟨_, _, h1⟩ := h.ex; next_any h1
theorem packetA (h : RobA w0 p ph ps R w) : Calls Try.prog 16 #[.pointer (some ⟨p, 0, none⟩)] w (PacketR R.told R.on [] w) := let ⟨_, _, h1⟩ := h.ex; rpkt_any h1
def StepA (w0 : World) (p ph ps : Nat) (R : Rob) (w : World) (e : Ending) (w' : World) : Prop := e = .returned (.bool (stepB R)) ∧ RobA w0 p ph ps (stepS R) w' ∧ KeepB w w'
theorem stepA (h : RobA w0 p ph ps R w) (ok : R.ok) : Calls Try.prog 12 #[.pointer (some ⟨p, 0, none⟩)] w (StepA w0 p ph ps R w) :=
  let ⟨_, _, h1⟩ := h.ex
  (step_any h1 ok).mono fun _ _ ⟨a, b⟩ => ⟨a, b.a h, ⟨_, b.kp, h1.ty3⟩⟩
def HeardA (w0 : World) (p ph ps : Nat) (R : Rob) (f : List Nat) (w : World) (e : Ending) (w' : World) : Prop := e = .returned (.bool (heardB R.told R.on f)) ∧ RobA w0 p ph ps (heardS R f) w' ∧ KeepB w w'
theorem heardA (h : RobA w0 p ph ps R w) {v : Value} {f : List Nat} (hv : Rd BK w v f) (hl : f.length ≤ 1000000) (hx : ∀ x ∈ f, x < 256) : Calls Try.prog 19 #[.pointer (some ⟨p, 0, none⟩), v] w (HeardA w0 p ph ps R f w) :=
  let ⟨_, _, h1⟩ := h.ex
  (rheard_any h1 hv hl hx).mono fun _ _ ⟨a, b⟩ => ⟨a, b.a h, ⟨_, b.kp, h1.ty3⟩⟩
def HearA (w0 : World) (p ph ps : Nat) (R : Rob) (F : List Nat) (w : World) (e : Ending) (w' : World) : Prop := ∃ v', e = .returned v' ∧ Own BK 5 w' v' (hearB R F) ∧ (∀ g, v'.ownBlock = some g → w.heap.size ≤ g) ∧ RobA w0 p ph ps (hearS R F) w' ∧ KeepB w w'
theorem tkD_len (F : List Nat) : (tkD F).length ≤ 1000000 := by
  unfold tkD
  split
  · rename_i h
    unfold takeOk tOk at h
    simp only [Bool.and_eq_true, decide_eq_true_eq] at h
    unfold tD
    rw [dataP_len]
    omega
  · simp
theorem tkD_byte (f : List Nat) : ∀ x ∈ tkD f, x < 256 := by
  unfold tkD
  split
  · unfold tD; exact dataP_lt _ _ _
  · intro x hx; simp at hx
theorem hearA (h : RobA w0 p ph ps R w) (ok : R.ok) {v : Value} {F : List Nat} (hv : Rd BK w v F) (hl : F.length ≤ 1000000) (hx : ∀ x ∈ F, x < 256) : Calls Try.prog 10 #[.pointer (some ⟨p, 0, none⟩), v] w (HearA w0 p ph ps R F w) :=
  let ⟨_, _, h1⟩ := h.ex
  (robHear_any h1 ok hv hl hx (tkD_len F) (tkD_byte F)).mono fun _ _ ⟨v', a, b, c, d⟩ => ⟨v', a, b, c, d.a h, ⟨_, d.kp, h1.ty3⟩⟩
end

/-- The packet by which a robot is told an act. -/
def pktA (n k : Nat) (c p : Int) : List Nat := layL false n (layA k c p)
def Pkt18R (n k : Nat) (c p : Int) (w : World) (e : Ending) (w' : World) : Prop := ∃ v', e = .returned v' ∧ NewS BK 5 w w' v' (pktA n k c p)
set_option maxRecDepth 100000 in
theorem packet18_any (n k : Nat) (c p : Int) (hn : n < 18446744073709551616) (hk : k < 256) (w : World) (x : Int) (hx : x = n) : Calls Try.prog 11 #[.int .u64 x, .agg #[.int .u8 (k : Int), .int .i64 c, .int .i64 p]] w (Pkt18R n k c p w) := by
  subst hx
  obtain ⟨D, hD⟩ : ∃ D, D = layA k c p := ⟨_, rfl⟩
  have HD := Lib.hid hD
  have HDX := Lib.hid (show ∀ x ∈ D, x < 256 by rw [hD]; exact layA_lt _ _ _)
  have hdl : D.length ≤ 1000000 := by rw [hD]; exact Nat.le_trans (layA_le _ _ _) (by decide)
  have HN := Lib.hid hn
  clear hD hn
  go_enter Try.func11, Try.ntmps11
  go_wp2_with fail
  refine (layAct_any k c p hk _).mono ?_
  rintro e w1 ⟨v1, rfl, k1⟩
  rw [← HD.out] at k1
  obtain ⟨A1, c1, rfl⟩ := k1.own.rd.shape
  have K1 := Lib.hid k1
  clear k1
  go_wp2_with fail
  refine (rlay_any K1.out.own.rd false n HN.out HDX.out).mono ?_
  rintro e w2 ⟨v2, rfl, k2⟩
  obtain ⟨A2, c2, rfl⟩ := k2.own.rd.shape
  have K2 := Lib.hid k2
  clear k2
  go_wp2
  go_ret
  refine ⟨_, rfl, ?_⟩
  unfold pktA
  rw [← HD.out]
  have kk := ((Kp.refl No w).alloc (.cells #[.int .u8 (k : Int), .int .i64 c, .int .i64 p] 32)).trans K1.out.kp
  exact ⟨K2.out.own, fun g hg => Nat.le_trans kk.size (K2.out.ge g hg), kk.trans K2.out.kp⟩
end Go.Proofs.Ytbafdfkmakehnaa

namespace Go.Proofs.Ytbafdfkmakehnaa
set_option linter.unusedVariables false
set_option linter.unusedSimpArgs false
open Go.RowKit

theorem Kp.bytesWorld (w : World) (e : TypeId) (s : ByteArray) : Kp No w (Lib.bytesWorld w e s) :=
  ⟨rfl, rfl, rfl, by rw [Lib.bytesWorld_size]; omega, fun k hk _ => Lib.bytesWorld_at_old w e s k hk⟩
theorem run_bytes (d : List Nat) (w : World) : (convert 9 27 (.string (strB d))).run Try.prog w = .ok (.slice (some ⟨w.heap.size, 0, none⟩) d.length (grownCap w d.length 0 5)) (Lib.bytesWorld w 5 (strB d)) := by
  have := Lib.run_convert_string_bytes (P := Try.prog) w 9 27 5 (strB d) (u := .string) (by kernel_rfl) (by kernel_rfl) (by kernel_rfl)
  rwa [strB_size] at this
theorem rd_bytes (w : World) (d : List Nat) (hd : d.length ≤ 1000000) (hx : ∀ x ∈ d, x < 256) : Rd BK (Lib.bytesWorld w 5 (strB d)) (.slice (some ⟨w.heap.size, 0, none⟩) d.length (grownCap w d.length 0 5)) d := by
  refine .inr ⟨w.heap.size, 0, _, rfl, grownCap_ge w _ _ _, grownCap_le_maxLen w _ _ _ (by unfold maxLen; omega), fun j u hu => ?_⟩
  rw [encs_BK, List.getElem?_map] at hu
  obtain ⟨x, hx1, rfl⟩ := Option.map_eq_some_iff.1 hu
  have hj := (List.getElem?_eq_some_iff.1 hx1).1
  have h256 := hx x (List.mem_of_getElem? hx1)
  rw [Nat.zero_add, Lib.bytesWorld_cell w 5 (strB d) j (by rw [strB_size]; exact hj), strB_data, List.getD_eq_getElem?_getD, List.getElem?_map, hx1]
  simp
  omega

/-- Three cells are written. -/
def put3 (cs : Array Value) (o n : Nat) (on : Bool) (d : List Nat) : Array Value := ((cs.setIfInBounds o (.int .u64 (n : Int))).setIfInBounds (o + 1) (.bool on)).setIfInBounds (o + 2) (.string (strB d))
/-- The document's sender: three cells of a block. -/
structure SqS (p o : Nat) (cs : Array Value) (t : TypeId) (n : Nat) (on : Bool) (d : List Nat) (w : World) : Prop where
  blk : w.heap[p]? = some (.cells cs t (0, 0))
  c0 : cs[o]? = some (.int .u64 (n : Int))
  c1 : cs[o + 1]? = some (.bool on)
  c2 : cs[o + 2]? = some (.string (strB d))
  big : n < 18446744073709551616
  ok : on = true → n < 18446744073709551614 ∧ d.length ≤ 200
  byt : ∀ x ∈ d, x < 256
theorem set_same (cs : Array Value) (i : Nat) (v : Value) (h : cs[i]? = some v) : cs.setIfInBounds i v = cs := by
  apply Array.ext_getElem?
  intro j
  rw [Array.getElem?_setIfInBounds]
  split
  · rename_i e; subst e
    split
    · exact h.symm
    · rename_i hlt; rw [Array.getElem?_eq_none (by omega)] at h; cases h
  · rfl
theorem SqS.far {S : Nat → Prop} {p o n : Nat} {cs : Array Value} {t : TypeId} {on : Bool} {d : List Nat} {w w' : World} (h : SqS p o cs t n on d w) (hk : Kp S w w') (hp : ¬ S p) : SqS p o cs t n on d w' := ⟨hk.blk h.blk hp, h.c0, h.c1, h.c2, h.big, h.ok, h.byt⟩
theorem SqS.no {p o n : Nat} {cs : Array Value} {t : TypeId} {on : Bool} {d : List Nat} {w w' : World} (h : SqS p o cs t n on d w) (hk : Kp No w w') : SqS p o cs t n on d w' := h.far hk (no_no _)
theorem SqS.cells {p o n : Nat} {cs : Array Value} {t : TypeId} {on : Bool} {d : List Nat} {w : World} (h : SqS p o cs t n on d w) : w.cell? ⟨p, o, none⟩ = some (.int .u64 (n : Int)) ∧ w.cell? ⟨p, o + 1, none⟩ = some (.bool on) ∧ w.cell? ⟨p, o + 2, none⟩ = some (.string (strB d)) ∧ w.frozen? ⟨p, o, none⟩ = false ∧ w.frozen? ⟨p, o + 1, none⟩ = false ∧ w.frozen? ⟨p, o + 2, none⟩ = false :=
  ⟨(blk_cell h.blk _).trans h.c0, (blk_cell h.blk _).trans h.c1, (blk_cell h.blk _).trans h.c2, blk_free h.blk _, blk_free h.blk _, blk_free h.blk _⟩
theorem SqS.put {p o n m : Nat} {cs : Array Value} {t : TypeId} {on on' : Bool} {d d' : List Nat} {w w' : World} (h : SqS p o cs t n on d w) (hb : w'.heap[p]? = some (.cells (put3 cs o m on' d') t (0, 0))) (hm : m < 18446744073709551616) (hok : on' = true → m < 18446744073709551614 ∧ d'.length ≤ 200) (hby : ∀ x ∈ d', x < 256) :
    SqS p o (put3 cs o m on' d') t m on' d' w' := by
  have l0 := (Array.getElem?_eq_some_iff.1 h.c0).1
  have l1 := (Array.getElem?_eq_some_iff.1 h.c1).1
  have l2 := (Array.getElem?_eq_some_iff.1 h.c2).1
  refine ⟨hb, ?_, ?_, ?_, hm, hok, hby⟩ <;> unfold put3 <;> simp [Array.getElem?_setIfInBounds, l0, l1, l2]
theorem SqS.same {p o n : Nat} {cs : Array Value} {t : TypeId} {on : Bool} {d : List Nat} {w : World} (h : SqS p o cs t n on d w) : put3 cs o n on d = cs := by
  unfold put3
  rw [set_same cs o _ h.c0, set_same cs _ _ h.c1, set_same cs _ _ h.c2]

def RTellR (p o : Nat) (cs : Array Value) (t : TypeId) (n : Nat) (on : Bool) (d d' : List Nat) (w : World) (e : Ending) (w' : World) : Prop :=
  e = .returned (.int .i64 (tellE n on d')) ∧ Kp (fun k => k = p) w w' ∧
    SqS p o (put3 cs o n (on || decide (tellE n on d' = 0)) (if tellE n on d' = 0 then d' else d)) t n (on || decide (tellE n on d' = 0)) (if tellE n on d' = 0 then d' else d) w'

set_option maxRecDepth 100000 in
theorem rtell_any {w : World} {p o n : Nat} {cs : Array Value} {t : TypeId} {on : Bool} {d d' : List Nat} (h : SqS p o cs t n on d w) (hx : ∀ x ∈ d', x < 256) (s : ByteArray) (hs : s = strB d') :
    Calls Try.prog 62 #[.pointer (some ⟨p, o, none⟩), .string s] w (RTellR p o cs t n on d d' w) := by
  subst hs
  obtain ⟨c0, c1, c2, f0, f1, f2⟩ := h.cells
  have H := Lib.hid h; have HX := Lib.hid hx
  have same : tellE n on d' ≠ 0 → ∀ w', w' = w → RTellR p o cs t n on d d' w (.returned (.int .i64 (tellE n on d'))) w' := by
    rintro hne w' rfl
    refine ⟨rfl, Kp.refl _ _, ?_⟩
    rw [if_neg hne, decide_eq_false hne, Bool.or_false, h.same]; exact h
  have SM := Lib.hid same
  have hsz := strB_size d'
  have HSZ := Lib.hid hsz
  clear h hx same
  cases on
  · by_cases h1 : 200 < d'.length
    · have he : tellE n false d' = 4 := by unfold tellE; rw [if_neg (by decide), if_pos (.inl h1)]
      have h1I : (200 : Int) < ((strB d').size : Int) := by omega
      have HE := Lib.hid he
      clear he h1 hsz
      go_enter Try.func62, Try.ntmps62
      go_wp2
      go_ret
      have q := SM.out (by rw [HE.out]; decide) w rfl
      rw [HE.out] at q; exact q
    · have h1I : ¬ (200 : Int) < ((strB d').size : Int) := by omega
      by_cases h2 : 18446744073709551614 ≤ n
      · have he : tellE n false d' = 4 := by unfold tellE; rw [if_neg (by decide), if_pos (.inr h2)]
        have h2I : (18446744073709551614 : Int) ≤ (n : Int) := by omega
        have HE := Lib.hid he
        clear he h1 h2 hsz
        go_enter Try.func62, Try.ntmps62
        go_wp2
        go_ret
        have q := SM.out (by rw [HE.out]; decide) w rfl
        rw [HE.out] at q; exact q
      · have he : tellE n false d' = 0 := by unfold tellE; rw [if_neg (by decide), if_neg (fun h => by rcases h with h | h; exact h1 h; exact h2 h)]
        have h2I : ¬ (18446744073709551614 : Int) ≤ (n : Int) := by omega
        have HE := Lib.hid he; have H1 := Lib.hid h1; have H2 := Lib.hid h2
        clear he h1 h2 hsz
        go_enter Try.func62, Try.ntmps62
        go_wp2
        go_ret
        have hk := (Kp.one (w := w) (p := p) (o + 1) (.bool true)).trans (Kp.one (p := p) (o + 2) (.string (strB d')))
        refine ⟨by rw [HE.out]; rfl, hk, ?_⟩
        rw [if_pos HE.out, decide_eq_true HE.out, Bool.or_true]
        refine H.out.put ?_ H.out.big (fun _ => ⟨by have := H2.out; omega, by have := H1.out; omega⟩) HX.out
        unfold put3
        rw [set_same cs o _ H.out.c0]
        exact blk_set (blk_set H.out.blk _ _) _ _
  · have he : tellE n true d' = 3 := by unfold tellE; rw [if_pos rfl]
    have HE := Lib.hid he
    clear he hsz
    go_enter Try.func62, Try.ntmps62
    go_wp2
    go_ret
    have q := SM.out (by rw [HE.out]; decide) w rfl
    rw [HE.out] at q; exact q

set_option maxRecDepth 100000 in
theorem rpacket_any {w : World} {p o n : Nat} {cs : Array Value} {t : TypeId} {on : Bool} {d : List Nat} (h : SqS p o cs t n on d w) : Calls Try.prog 22 #[.pointer (some ⟨p, o, none⟩)] w (PacketR n on d w) := by
  obtain ⟨c0, c1, c2, f0, f1, f2⟩ := h.cells
  have H := Lib.hid h
  cases on
  · clear h
    go_enter Try.func22, Try.ntmps22
    go_wp2
    go_ret2
    exact ⟨.slice none 0 0, rfl, NewS.nil _ _ _⟩
  · have hb := (h.ok rfl).1
    have hdl := (h.ok rfl).2
    obtain ⟨m, hm⟩ : ∃ m, m = n + 1 := ⟨_, rfl⟩
    have e1 : (n : Int) + 1 = (m : Int) := by omega
    have e2 : IntKind.u64.wrap (m : Int) = (m : Int) := IntWalk.u64_in _ (by omega)
    have hm2 : m < 18446744073709551616 := by omega
    have HM := Lib.hid hm; have HM2 := Lib.hid hm2
    have hcv := run_bytes d
    have RB := Lib.hid (rd_bytes w.drew d (by omega) h.byt)
    have hpl := lt_of_block h.blk
    have d0 : (Lib.bytesWorld w.drew 5 (strB d)).cell? ⟨p, o, none⟩ = some (.int .u64 (n : Int)) := (Lib.bytesWorld_old w.drew _ _ _ hpl).trans c0
    clear h hm hb hm2 hdl
    go_enter Try.func22, Try.ntmps22
    go_wp2
    go_region_law (go_simp; go_at_call 18; refine (rlay_any (w := Lib.bytesWorld w.drew 5 (strB d)) RB.out false m HM2.out H.out.byt).mono ?_; rintro e w2 ⟨v2, rfl, k2⟩; obtain ⟨A2, cp2, rfl⟩ := k2.own.rd.shape; have K2 := Lib.hid k2; clear k2)
    all_goals
      go_wp2
      go_ret2
      exact ⟨.slice A2 (layL false m d).length cp2, rfl, by unfold pktL; rw [if_pos rfl, ← HM.out]; exact ⟨K2.out.own, fun g hg => Nat.le_trans (Kp.bytesWorld w.drew 5 (strB d)).size (K2.out.ge g hg), ((Kp.bytesWorld w.drew 5 (strB d)).trans K2.out.kp).ofDrew⟩⟩
end Go.Proofs.Ytbafdfkmakehnaa

namespace Go.Proofs.Ytbafdfkmakehnaa
set_option linter.unusedVariables false
set_option linter.unusedSimpArgs false
open Go.RowKit

def RSHearR (p o : Nat) (cs : Array Value) (t : TypeId) (n : Nat) (on : Bool) (d f : List Nat) (w : World) (e : Ending) (w' : World) : Prop :=
  e = .returned (.bool (heardB n on f)) ∧ Kp (fun k => k = p) w w' ∧
    SqS p o (put3 cs o (if heardB n on f then n + 1 else n) (on && !heardB n on f) d) t (if heardB n on f then n + 1 else n) (on && !heardB n on f) d w'

set_option maxHeartbeats 400000 in
set_option maxRecDepth 100000 in
theorem rshear_any {w : World} {p o told : Nat} {cs : Array Value} {t : TypeId} {tells : Bool} {data : List Nat} {v : Value} {f : List Nat} (h : SqS p o cs t told tells data w) (hv : Rd BK w v f) (hl : f.length ≤ 1000000) (hx : ∀ x ∈ f, x < 256) :
    Calls Try.prog 24 #[.pointer (some ⟨p, o, none⟩), v] w (RSHearR p o cs t told tells data f w) := by
  obtain ⟨A, cap, rfl⟩ := hv.shape
  have hpl := lt_of_block h.blk
  have hbig := h.big
  have H := Lib.hid h; have HV := Lib.hid hv; have HX := Lib.hid hx
  obtain ⟨hB, hhB⟩ : ∃ hB, hB = heardB told tells f := ⟨_, rfl⟩
  obtain ⟨m, hm⟩ : ∃ m, m = tkN f := ⟨_, rfl⟩
  obtain ⟨b, hb⟩ : ∃ b, b = tkH f := ⟨_, rfl⟩
  obtain ⟨ok, hok⟩ : ∃ ok, ok = takeOk f := ⟨_, rfl⟩
  obtain ⟨er, her⟩ : ∃ er, er = tkE f := ⟨_, rfl⟩
  have h1 : (er != 0) = !ok := by rw [her, hok]; exact takeOk_E f
  have h2 : hB = (tells && ok && b && decide (m = told + 1)) := by rw [hhB]; unfold heardB; rw [← hm, ← hb, ← hok]
  obtain ⟨n, hn⟩ : ∃ n, n = told + 1 := ⟨_, rfl⟩
  have e1 : (told : Int) + 1 = (n : Int) := by omega
  have e2 : tells = true → IntKind.u64.wrap (n : Int) = (n : Int) := fun e => IntWalk.u64_in _ (by have := (h.ok e).1; omega)
  obtain ⟨ne, hne⟩ : ∃ ne, ne = ((m : Int) != (n : Int)) := ⟨_, rfl⟩
  have h3 : ne = !decide (m = told + 1) := by
    rw [hne, ← hn]
    by_cases hq : m = n
    · simp [hq]
    · have : (m : Int) ≠ (n : Int) := by omega
      simp [hq, this]
  have hneI := hne.symm
  have HM := Lib.hid hm; have HB := Lib.hid hb; have HER := Lib.hid her; have HHB := Lib.hid hhB
  have no : hB = false → ∀ w', Kp No w w' → RSHearR p o cs t told tells data f w (.returned (.bool false)) w' := by
    intro e w' hk
    refine ⟨by rw [← hhB, e], hk.mono fun _ _ e => e.elim, ?_⟩
    rw [← hhB, e]; simp only [Bool.not_false, Bool.and_true]
    rw [show (if false = true then told + 1 else told) = told from rfl, h.same]; exact h.no hk
  have HNO := Lib.hid no
  have H2 := Lib.hid h2; have H3 := Lib.hid h3; have HN := Lib.hid hn
  clear h hv hx hm hb her hhB no h2 h3 hne hn hok
  have hcase : (tells = false) ∨ (tells = true ∧ ok = false) ∨ (tells = true ∧ ok = true ∧ b = false) ∨ (tells = true ∧ ok = true ∧ b = true ∧ ne = true) ∨ (tells = true ∧ ok = true ∧ b = true ∧ ne = false) := by
    cases tells <;> cases ok <;> cases b <;> cases ne <;> simp
  rcases hcase with rfl | ⟨rfl, rfl⟩ | ⟨rfl, rfl, rfl⟩ | ⟨rfl, rfl, rfl, rfl⟩ | ⟨rfl, rfl, rfl, rfl⟩
  all_goals
    try (replace e2 := e2 rfl)
    go_enter Try.func24, Try.ntmps24
    go_wp2_with fail
    refine (rtake_any HV.out hl HX.out).mono ?_
    rintro e w1 ⟨v1, rfl, k1⟩
    rw [← HM.out, ← HB.out, ← HER.out]
    obtain ⟨A1, cp1, rfl⟩ := k1.own.rd.shape
    have s1 := H.out.no k1.kp
    obtain ⟨c0, c1, c2, f0, f1, f2⟩ := s1.cells
    have K1 := Lib.hid k1; have S1 := Lib.hid s1
    have hpl1 : p < w1.heap.size := lt_of_block s1.blk
    clear k1 s1
    go_wp2
    go_quiet (fail)
    go_wp2
    first
      | (go_ret; exact HNO.out (by rw [H2.out]; rfl) _ ((K1.out.kp.alloc _).drewN _))
      | (go_ret; exact HNO.out (by rw [H2.out]; simp only [Bool.true_and]; exact bnot_t H3.out) _ ((K1.out.kp.alloc _).drewN _))
      | (go_ret
         have hB1 : hB = true := by rw [H2.out]; simp only [Bool.true_and]; exact bnot_f H3.out
         have hh : heardB told true f = true := by rw [← HHB.out]; exact hB1
         have hk := (Kp.one (w := (w1.alloc (.cells #[.bool true, .int .u64 (m : Int), .slice A1 (tkD f).length cp1] 40)).drewN nq) (p := p) (o + 1) (.bool false)).trans (Kp.one (p := p) o (.int .u64 (n : Int)))
         have kk := ((K1.out.kp.alloc (.cells #[.bool true, .int .u64 (m : Int), .slice A1 (tkD f).length cp1] 40)).drewN nq)
         have bk := blk_set (blk_set (kk.blk H.out.blk (no_no _)) (o + 1) (.bool false)) o (.int .u64 (n : Int))
         refine ⟨by rw [hh]; rfl, (kk.mono (S2 := fun k => k = p) fun _ _ e => e.elim).trans hk, ?_⟩
         rw [hh, if_pos rfl, ← HN.out]
         refine H.out.put ?_ (by have := (H.out.ok rfl).1; have := HN.out; omega) (fun e => by simp at e) H.out.byt
         have hp : put3 cs o n (true && !true) data = (cs.setIfInBounds (o + 1) (.bool false)).setIfInBounds o (.int .u64 (n : Int)) := by
           unfold put3
           rw [set_same _ (o + 2) _ (by rw [Array.getElem?_setIfInBounds_ne (by omega), Array.getElem?_setIfInBounds_ne (by omega)]; exact H.out.c2)]
           exact Array.setIfInBounds_comm _ _ (by omega)
         rw [hp]; exact bk)

/-- The document's receiver: a cell of a block. -/
structure RcqS (p o : Nat) (cs : Array Value) (t : TypeId) (heard : Nat) (w : World) : Prop where
  blk : w.heap[p]? = some (.cells cs t (0, 0))
  c0 : cs[o]? = some (.int .u64 (heard : Int))
  big : heard < 18446744073709551616
theorem RcqS.far {S : Nat → Prop} {p o heard : Nat} {cs : Array Value} {t : TypeId} {w w' : World} (h : RcqS p o cs t heard w) (hk : Kp S w w') (hp : ¬ S p) : RcqS p o cs t heard w' := ⟨hk.blk h.blk hp, h.c0, h.big⟩
theorem RcqS.no {p o heard : Nat} {cs : Array Value} {t : TypeId} {w w' : World} (h : RcqS p o cs t heard w) (hk : Kp No w w') : RcqS p o cs t heard w' := h.far hk (no_no _)
def RRHearR (p o : Nat) (cs : Array Value) (t : TypeId) (heard : Nat) (f : List Nat) (w : World) (e : Ending) (w' : World) : Prop :=
  ∃ v1 v2, e = .returned (.tuple #[v1, .bool (freshB heard f), v2]) ∧ Kp (fun k => k = p) w w' ∧ RcqS p o (cs.setIfInBounds o (.int .u64 ((if freshB heard f then nxt heard else heard : Nat) : Int))) t (if freshB heard f then nxt heard else heard) w' ∧
    Own BK 5 w' v1 (if freshB heard f then tkD f else []) ∧ Own BK 5 w' v2 (if ackB heard f then layL true (tkN f) [] else []) ∧ (∀ g, v1.ownBlock = some g → w.heap.size ≤ g) ∧ (∀ g, v2.ownBlock = some g → w.heap.size ≤ g)

set_option maxHeartbeats 400000 in
set_option maxRecDepth 100000 in
theorem rrhear_any {w : World} {p o heard : Nat} {cs : Array Value} {t : TypeId} {v : Value} {f : List Nat} (h : RcqS p o cs t heard w) (hv : Rd BK w v f) (hl : f.length ≤ 1000000) (hx : ∀ x ∈ f, x < 256) :
    Calls Try.prog 50 #[.pointer (some ⟨p, o, none⟩), v] w (RRHearR p o cs t heard f w) := by
  obtain ⟨A, cap, rfl⟩ := hv.shape
  have hpl := lt_of_block h.blk
  have H := Lib.hid h; have HV := Lib.hid hv; have HX := Lib.hid hx
  obtain ⟨m, hm⟩ : ∃ m, m = tkN f := ⟨_, rfl⟩
  obtain ⟨b, hb⟩ : ∃ b, b = tkH f := ⟨_, rfl⟩
  obtain ⟨ok, hok⟩ : ∃ ok, ok = takeOk f := ⟨_, rfl⟩
  obtain ⟨er, her⟩ : ∃ er, er = tkE f := ⟨_, rfl⟩
  obtain ⟨n, hn⟩ : ∃ n, n = nxt heard := ⟨_, rfl⟩
  have h1 : (er != 0) = !ok := by rw [her, hok]; exact takeOk_E f
  have e2 : IntKind.u64.wrap ((heard : Int) + 1) = (n : Int) := by rw [hn]; exact nxt_wrap heard
  have hml : m < 18446744073709551615 := by rw [hm]; exact tkN_lt f
  obtain ⟨z, hz⟩ : ∃ z, z = decide (m = 0) := ⟨_, rfl⟩
  obtain ⟨gt, hgt⟩ : ∃ gt, gt = decide (n < m) := ⟨_, rfl⟩
  obtain ⟨ne, hne⟩ : ∃ ne, ne = !decide (m = n) := ⟨_, rfl⟩
  have z1 : ((m : Int) == 0) = z := by rw [hz]; by_cases q : m = 0 <;> simp [q]
  have g1 : decide ((n : Int) < (m : Int)) = gt := by rw [hgt]; by_cases q : n < m <;> simp [q]
  have g2 : decide (n < m) = gt := hgt.symm
  have n1 : ((m : Int) != (n : Int)) = ne := by
    rw [hne]
    by_cases q : m = n
    · simp [q]
    · have : (m : Int) ≠ (n : Int) := by omega
      simp [q, this]
  have hA : ackB heard f = (ok && !b && !z && !gt) := by
    unfold ackB; rw [← hm, ← hb, ← hok, hz, hgt, hn]
    by_cases q : m ≤ nxt heard
    · simp [q, show ¬ nxt heard < m by omega]
    · simp [q, show nxt heard < m by omega]
  have hF : freshB heard f = (ok && !b && !z && !gt && !ne) := by
    unfold freshB; rw [hA, ← hm, hne, ← hn]; simp
  have HA := Lib.hid hA; have HF := Lib.hid hF; have HM := Lib.hid hm; have HB := Lib.hid hb; have HER := Lib.hid her; have HN := Lib.hid hn; have HML := Lib.hid hml
  clear h hv hx hm hb hok her hn hz hgt hne hA hF hml
  have hcase : ok = false ∨ (ok = true ∧ b = true) ∨ (ok = true ∧ b = false ∧ z = true) ∨ (ok = true ∧ b = false ∧ z = false ∧ gt = true) ∨ (ok = true ∧ b = false ∧ z = false ∧ gt = false ∧ ne = true) ∨ (ok = true ∧ b = false ∧ z = false ∧ gt = false ∧ ne = false) := by
    cases ok <;> cases b <;> cases z <;> cases gt <;> cases ne <;> simp
  have no : ackB heard f = false → ∀ w', Kp No w w' → RRHearR p o cs t heard f w (.returned (.tuple #[.slice none 0 0, .bool false, .slice none 0 0])) w' := by
    intro e w' hk
    have e' : freshB heard f = false := by unfold freshB; rw [e]; rfl
    exact ⟨.slice none 0 0, .slice none 0 0, by rw [e'], hk.mono fun _ _ e => e.elim, by rw [e']; rw [show (if false = true then nxt heard else heard) = heard from rfl, set_same _ _ _ H.out.c0]; exact H.out.no hk, by rw [e']; exact Own.nil _ _ _, by rw [e]; exact Own.nil _ _ _, by simp [Value.ownBlock], by simp [Value.ownBlock]⟩
  have HNO := Lib.hid no
  clear no
  rcases hcase with rfl | ⟨rfl, rfl⟩ | ⟨rfl, rfl, rfl⟩ | ⟨rfl, rfl, rfl, rfl⟩ | ⟨rfl, rfl, rfl, rfl, rfl⟩ | ⟨rfl, rfl, rfl, rfl, rfl⟩
  · go_enter Try.func50, Try.ntmps50
    go_wp2_with fail
    refine (rtake_any HV.out hl HX.out).mono ?_
    rintro e w1 ⟨v1, rfl, k1⟩
    rw [← HM.out, ← HB.out, ← HER.out]
    obtain ⟨A1, cp1, rfl⟩ := k1.own.rd.shape
    have s1 := H.out.no k1.kp
    have c0 : w1.cell? ⟨p, o, none⟩ = some (.int .u64 (heard : Int)) := (blk_cell s1.blk o).trans s1.c0
    have f0 := blk_free s1.blk o
    have K1 := Lib.hid k1; have S1 := Lib.hid s1
    have hpl1 : p < w1.heap.size := lt_of_block s1.blk
    clear k1 s1
    go_wp2
    go_quiet (fail)
    go_wp2
    go_ret3
    exact HNO.out (by rw [HA.out]; rfl) _ ((K1.out.kp.alloc _).drewN _)
  · go_enter Try.func50, Try.ntmps50
    go_wp2_with fail
    refine (rtake_any HV.out hl HX.out).mono ?_
    rintro e w1 ⟨v1, rfl, k1⟩
    rw [← HM.out, ← HB.out, ← HER.out]
    obtain ⟨A1, cp1, rfl⟩ := k1.own.rd.shape
    have s1 := H.out.no k1.kp
    have c0 : w1.cell? ⟨p, o, none⟩ = some (.int .u64 (heard : Int)) := (blk_cell s1.blk o).trans s1.c0
    have f0 := blk_free s1.blk o
    have K1 := Lib.hid k1; have S1 := Lib.hid s1
    have hpl1 : p < w1.heap.size := lt_of_block s1.blk
    clear k1 s1
    go_wp2
    go_quiet (fail)
    go_wp2
    go_ret3
    exact HNO.out (by rw [HA.out]; rfl) _ ((K1.out.kp.alloc _).drewN _)
  · go_enter Try.func50, Try.ntmps50
    go_wp2_with fail
    refine (rtake_any HV.out hl HX.out).mono ?_
    rintro e w1 ⟨v1, rfl, k1⟩
    rw [← HM.out, ← HB.out, ← HER.out]
    obtain ⟨A1, cp1, rfl⟩ := k1.own.rd.shape
    have s1 := H.out.no k1.kp
    have c0 : w1.cell? ⟨p, o, none⟩ = some (.int .u64 (heard : Int)) := (blk_cell s1.blk o).trans s1.c0
    have f0 := blk_free s1.blk o
    have K1 := Lib.hid k1; have S1 := Lib.hid s1
    have hpl1 : p < w1.heap.size := lt_of_block s1.blk
    clear k1 s1
    go_wp2
    go_quiet (fail)
    go_wp2
    go_ret3
    exact HNO.out (by rw [HA.out]; rfl) _ ((K1.out.kp.alloc _).drewN _)
  · go_enter Try.func50, Try.ntmps50
    go_wp2_with fail
    refine (rtake_any HV.out hl HX.out).mono ?_
    rintro e w1 ⟨v1, rfl, k1⟩
    rw [← HM.out, ← HB.out, ← HER.out]
    obtain ⟨A1, cp1, rfl⟩ := k1.own.rd.shape
    have s1 := H.out.no k1.kp
    have c0 : w1.cell? ⟨p, o, none⟩ = some (.int .u64 (heard : Int)) := (blk_cell s1.blk o).trans s1.c0
    have f0 := blk_free s1.blk o
    have K1 := Lib.hid k1; have S1 := Lib.hid s1
    have hpl1 : p < w1.heap.size := lt_of_block s1.blk
    clear k1 s1
    go_wp2
    go_quiet (fail)
    go_wp2
    go_ret3
    exact HNO.out (by rw [HA.out]; rfl) _ ((K1.out.kp.alloc _).drewN _)
  · go_enter Try.func50, Try.ntmps50
    go_wp2_with fail
    refine (rtake_any HV.out hl HX.out).mono ?_
    rintro e w1 ⟨v1, rfl, k1⟩
    rw [← HM.out, ← HB.out, ← HER.out]
    obtain ⟨A1, cp1, rfl⟩ := k1.own.rd.shape
    have s1 := H.out.no k1.kp
    have c0 : w1.cell? ⟨p, o, none⟩ = some (.int .u64 (heard : Int)) := (blk_cell s1.blk o).trans s1.c0
    have f0 := blk_free s1.blk o
    have K1 := Lib.hid k1; have S1 := Lib.hid s1
    have hpl1 : p < w1.heap.size := lt_of_block s1.blk
    clear k1 s1
    go_wp2
    go_quiet (fail)
    obtain ⟨wq, hwq⟩ : ∃ wq, wq = (w1.alloc (.cells #[.bool false, .int .u64 (m : Int), .slice A1 (tkD f).length cp1] 40)).drewN nq := ⟨_, rfl⟩
    rw [← hwq]
    have kq : Kp No w1 wq := by rw [hwq]; exact ((Kp.refl _ _).alloc _).drewN _
    have bq : wq.heap[w1.heap.size]? = some (.cells #[.bool false, .int .u64 (m : Int), .slice A1 (tkD f).length cp1] 40 (0, 0)) := by rw [hwq]; exact blk_new w1 _
    clear hwq
    have d0 := kq.cellS c0 (no_no _)
    have d1 : wq.cell? ⟨w1.heap.size, 1, none⟩ = some (.int .u64 (m : Int)) := (blk_cell bq 1).trans rfl
    have KQ := Lib.hid kq; have BQ := Lib.hid bq
    clear kq bq
    go_wp2_with fail
    refine (rlay_any (Rd.nil BK wq) true m (Nat.lt_succ_of_lt HML.out) (fun x hx => by simp at hx)).mono ?_
    rintro e w2 ⟨v2, rfl, k2⟩
    obtain ⟨A2, cp2, rfl⟩ := k2.own.rd.shape
    have b2 := k2.kp.blk BQ.out (no_no _)
    have s2 := (S1.out.no KQ.out).no k2.kp
    have r0 : w2.cell? ⟨p, o, none⟩ = some (.int .u64 (heard : Int)) := (blk_cell s2.blk o).trans s2.c0
    have r1 := blk_free s2.blk o
    have t1 : w2.cell? ⟨w1.heap.size, 1, none⟩ = some (.int .u64 (m : Int)) := (blk_cell b2 1).trans rfl
    have t2 : w2.cell? ⟨w1.heap.size, 2, none⟩ = some (.slice A1 (tkD f).length cp1) := (blk_cell b2 2).trans rfl
    have K2 := Lib.hid k2; have S2 := Lib.hid s2
    have hp2 : p < w1.heap.size := hpl1
    clear k2 s2 b2
    go_wp2
    go_quiet (fail)
    go_wp2
    have hA : ackB heard f = true := by rw [HA.out]; rfl
    have hF : freshB heard f = false := by rw [HF.out]; rfl
    have kk : Kp No w2 (w2.drewN nq) := (Kp.refl _ _).drewN _
    have kw := ((K1.out.kp.trans KQ.out).trans K2.out.kp).trans kk
    go_ret3
    refine ⟨.slice none 0 0, .slice A2 (layL true m []).length cp2, by rw [hF]; rfl, kw.mono fun _ _ e => e.elim, ?_, ?_, ?_, by simp [Value.ownBlock], fun g hg => Nat.le_trans (K1.out.kp.trans KQ.out).size (K2.out.ge g hg)⟩
    · rw [hF, show (if false = true then nxt heard else heard) = heard from rfl, set_same _ _ _ H.out.c0]; exact S2.out.no kk
    · rw [hF]; exact Own.nil _ _ _
    · rw [hA, if_pos rfl, ← HM.out]; exact K2.out.own.kpNo kk
  · go_enter Try.func50, Try.ntmps50
    go_wp2_with fail
    refine (rtake_any HV.out hl HX.out).mono ?_
    rintro e w1 ⟨v1, rfl, k1⟩
    rw [← HM.out, ← HB.out, ← HER.out]
    obtain ⟨A1, cp1, rfl⟩ := k1.own.rd.shape
    have s1 := H.out.no k1.kp
    have c0 : w1.cell? ⟨p, o, none⟩ = some (.int .u64 (heard : Int)) := (blk_cell s1.blk o).trans s1.c0
    have f0 := blk_free s1.blk o
    have K1 := Lib.hid k1; have S1 := Lib.hid s1
    have hpl1 : p < w1.heap.size := lt_of_block s1.blk
    clear k1 s1
    go_wp2
    go_quiet (fail)
    obtain ⟨wq, hwq⟩ : ∃ wq, wq = (w1.alloc (.cells #[.bool false, .int .u64 (m : Int), .slice A1 (tkD f).length cp1] 40)).drewN nq := ⟨_, rfl⟩
    rw [← hwq]
    have kq : Kp No w1 wq := by rw [hwq]; exact ((Kp.refl _ _).alloc _).drewN _
    have bq : wq.heap[w1.heap.size]? = some (.cells #[.bool false, .int .u64 (m : Int), .slice A1 (tkD f).length cp1] 40 (0, 0)) := by rw [hwq]; exact blk_new w1 _
    clear hwq
    have d0 := kq.cellS c0 (no_no _)
    have d1 : wq.cell? ⟨w1.heap.size, 1, none⟩ = some (.int .u64 (m : Int)) := (blk_cell bq 1).trans rfl
    have KQ := Lib.hid kq; have BQ := Lib.hid bq
    clear kq bq
    go_wp2_with fail
    refine (rlay_any (Rd.nil BK wq) true m (Nat.lt_succ_of_lt HML.out) (fun x hx => by simp at hx)).mono ?_
    rintro e w2 ⟨v2, rfl, k2⟩
    obtain ⟨A2, cp2, rfl⟩ := k2.own.rd.shape
    have b2 := k2.kp.blk BQ.out (no_no _)
    have s2 := (S1.out.no KQ.out).no k2.kp
    have r0 : w2.cell? ⟨p, o, none⟩ = some (.int .u64 (heard : Int)) := (blk_cell s2.blk o).trans s2.c0
    have r1 := blk_free s2.blk o
    have t1 : w2.cell? ⟨w1.heap.size, 1, none⟩ = some (.int .u64 (m : Int)) := (blk_cell b2 1).trans rfl
    have t2 : w2.cell? ⟨w1.heap.size, 2, none⟩ = some (.slice A1 (tkD f).length cp1) := (blk_cell b2 2).trans rfl
    have K2 := Lib.hid k2; have S2 := Lib.hid s2
    have hp2 : p < w1.heap.size := hpl1
    clear k2 s2 b2
    go_wp2
    go_quiet (fail)
    go_wp2
    have hA : ackB heard f = true := by rw [HA.out]; rfl
    have hF : freshB heard f = true := by rw [HF.out]; rfl
    have kk : Kp No w2 (w2.drewN nq) := (Kp.refl _ _).drewN _
    have kw := ((K1.out.kp.trans KQ.out).trans K2.out.kp).trans kk
    have k1 := Kp.one (w := w2.drewN nq) (p := p) o (.int .u64 (n : Int))
    have hnx : n < 18446744073709551616 := by rw [HN.out]; exact Nat.mod_lt _ (by decide)
    have hpw : p < w.heap.size := hpl
    go_ret3
    refine ⟨.slice A1 (tkD f).length cp1, .slice A2 (layL true m []).length cp2, by rw [hF]; rfl, (kw.mono (S2 := fun k => k = p) fun _ _ e => e.elim).trans k1, ?_, ?_, ?_, fun g hg => K1.out.ge g hg, fun g hg => Nat.le_trans (K1.out.kp.trans KQ.out).size (K2.out.ge g hg)⟩
    · rw [hF, if_pos rfl, ← HN.out]; exact ⟨blk_set (S2.out.no kk).blk o _, by have := (Array.getElem?_eq_some_iff.1 H.out.c0).1; simp [Array.getElem?_setIfInBounds, this], hnx⟩
    · rw [hF, if_pos rfl]; exact (((K1.out.own.kpNo KQ.out).kpNo K2.out.kp).kpNo kk).kp k1 fun g hg e => by have e : g = p := e; have := K1.out.ge g hg; omega
    · rw [hA, if_pos rfl, ← HM.out]; exact (K2.out.own.kpNo kk).kp k1 fun g hg e => by have e : g = p := e; have := Nat.le_trans (K1.out.kp.trans KQ.out).size (K2.out.ge g hg); omega
end Go.Proofs.Ytbafdfkmakehnaa

namespace Go.Proofs.Ytbafdfkmakehnaa
set_option linter.unusedVariables false
set_option linter.unusedSimpArgs false
open Go.RowKit

def qC (R : Rob) : Array Value :=
  #[.int .i64 R.cell, .int .i64 R.to_, .int .i64 R.dock, .int .i64 R.full, .int .i64 R.charge, .bool R.act.isSome, .int .u8 (actK R : Int), .int .i64 (actC R), .int .i64 (actP R), .int .u64 (R.done : Int), .int .u64 (R.heard : Int), .int .u64 (R.told : Int), .bool R.on, .string (strB [])]
/-- The document's robot: p points to it. -/
structure QRobS (p : Nat) (R : Rob) (w : World) : Prop where
  blk : w.heap[p]? = some (.cells (qC R) 59 (0, 0))
section
variable {p : Nat} {R : Rob} {w w' : World} {S : Nat → Prop}
theorem QRobS.far (h : QRobS p R w) (hk : Kp S w w') (hp : ¬ S p) : QRobS p R w' := ⟨hk.blk h.blk hp⟩
theorem QRobS.no (h : QRobS p R w) (hk : Kp No w w') : QRobS p R w' := h.far hk (no_no _)
theorem QRobS.sq (h : QRobS p R w) (ok : R.ok) : SqS p 11 (qC R) 59 R.told R.on [] w := ⟨h.blk, rfl, rfl, rfl, ok.told, fun e => ⟨ok.on e, by simp⟩, by simp⟩
theorem QRobS.rq (h : QRobS p R w) (ok : R.ok) : RcqS p 10 (qC R) 59 R.heard w := ⟨h.blk, rfl, ok.heard⟩
end

def NewQR (dock charge : Int) (w : World) (e : Ending) (w' : World) : Prop :=
  (newRobE dock charge = true ∧ e = .returned (.tuple #[.pointer none, .int .i64 1]) ∧ w = w') ∨
    (newRobE dock charge = false ∧ ∃ p, e = .returned (.tuple #[.pointer (some ⟨p, 0, none⟩), .int .i64 0]) ∧ QRobS p (newRob dock charge) w' ∧ Kp No w w' ∧ w.heap.size ≤ p)
set_option maxRecDepth 100000 in
theorem newQ_any (dock charge : Int) (w : World) : Calls Try.prog 20 #[.int .i64 dock, .int .i64 charge] w (NewQR dock charge w) := by
  by_cases h1 : dock < 0
  · have hE : newRobE dock charge = true := by unfold newRobE; simp [h1]
    have HE := Lib.hid hE
    clear hE
    go_enter Try.func20, Try.ntmps20
    go_wp2
    go_ret2
    exact .inl ⟨HE.out, rfl, rfl⟩
  · by_cases h2 : 255 < dock
    · have hE : newRobE dock charge = true := by unfold newRobE; simp [h2]
      have HE := Lib.hid hE
      clear hE
      go_enter Try.func20, Try.ntmps20
      go_wp2
      go_ret2
      exact .inl ⟨HE.out, rfl, rfl⟩
    · by_cases h3 : charge < 0
      · have hE : newRobE dock charge = true := by unfold newRobE; simp [h3]
        have HE := Lib.hid hE
        clear hE
        go_enter Try.func20, Try.ntmps20
        go_wp2
        go_ret2
        exact .inl ⟨HE.out, rfl, rfl⟩
      · have hE : newRobE dock charge = false := by unfold newRobE; simp [h1, h2, h3]
        have HE := Lib.hid hE
        clear hE
        go_enter Try.func20, Try.ntmps20
        go_wp2
        go_ret2
        exact .inr ⟨HE.out, w.heap.size, rfl, ⟨blk_new w _⟩, (Kp.refl _ _).alloc _, Nat.le_refl _⟩

/-- Nothing is carried on as an act, once it is done. -/
def qD (R : Rob) (n : Int) : Array Value := ((((((qC R).setIfInBounds 5 (.bool false)).setIfInBounds 6 (.int .u8 0)).setIfInBounds 7 (.int .i64 0)).setIfInBounds 8 (.int .i64 0)).setIfInBounds 1 (.int .i64 (-1))).setIfInBounds 9 (.int .u64 n)
theorem qD_eq (R : Rob) (n : Int) : qD R n = #[.int .i64 R.cell, .int .i64 (-1), .int .i64 R.dock, .int .i64 R.full, .int .i64 R.charge, .bool false, .int .u8 0, .int .i64 0, .int .i64 0, .int .u64 n, .int .u64 (R.heard : Int), .int .u64 (R.told : Int), .bool R.on, .string (strB [])] := rfl
theorem put_qD (R : Rob) (n : Int) (t : Nat) (b : Bool) (d : List Nat) : put3 (qD R n) 11 t b d = #[.int .i64 R.cell, .int .i64 (-1), .int .i64 R.dock, .int .i64 R.full, .int .i64 R.charge, .bool false, .int .u8 0, .int .i64 0, .int .i64 0, .int .u64 n, .int .u64 (R.heard : Int), .int .u64 (t : Int), .bool b, .string (strB d)] := by
  unfold put3; rw [qD_eq]; rfl
theorem qC_done (R : Rob) : put3 (qD R (nxt R.done : Int)) 11 R.told (R.on || decide (tellE R.told R.on [] = 0)) [] = qC (doneS { R with to_ := -1 }) := by
  rw [put_qD]; unfold qC doneS
  have e : nxt R.done = (R.done + 1) % 18446744073709551616 := by unfold nxt; rfl
  rw [← e]; simp [actK, actC, actP]

set_option maxHeartbeats 1000000 in
set_option maxRecDepth 100000 in
theorem qdone_any {p : Nat} {R : Rob} {w : World} (h : QRobS p R w) (ok : R.ok) : Calls Try.prog 49 #[.pointer (some ⟨p, 0, none⟩)] w fun e w' => e = .returned (.bool true) ∧ QRobS p (doneS { R with to_ := -1 }) w' ∧ Kp (fun k => k = p) w w' := by
  have H := Lib.hid h; have OK := Lib.hid ok
  have hpl := lt_of_block h.blk
  have c1 : w.cell? ⟨p, 1, none⟩ = some (.int .i64 R.to_) := (blk_cell h.blk 1).trans rfl
  have c5 : w.cell? ⟨p, 5, none⟩ = some (.bool R.act.isSome) := (blk_cell h.blk 5).trans rfl
  have c6 : w.cell? ⟨p, 6, none⟩ = some (.int .u8 (actK R : Int)) := (blk_cell h.blk 6).trans rfl
  have c7 : w.cell? ⟨p, 7, none⟩ = some (.int .i64 (actC R)) := (blk_cell h.blk 7).trans rfl
  have c8 : w.cell? ⟨p, 8, none⟩ = some (.int .i64 (actP R)) := (blk_cell h.blk 8).trans rfl
  have c9 : w.cell? ⟨p, 9, none⟩ = some (.int .u64 (R.done : Int)) := (blk_cell h.blk 9).trans rfl
  have f : ∀ i, w.frozen? ⟨p, i, none⟩ = false := blk_free h.blk
  have f1 := f 1; have f5 := f 5; have f6 := f 6; have f7 := f 7; have f8 := f 8; have f9 := f 9
  have hw := done_wrap R.done
  clear h ok f
  go_enter Try.func49, Try.ntmps49
  go_wp2_with fail
  have b6 := blk_set (blk_set (blk_set (blk_set (blk_set (blk_set H.out.blk 5 (.bool false)) 6 (.int .u8 0)) 7 (.int .i64 0)) 8 (.int .i64 0)) 1 (.int .i64 (-1))) 9 (.int .u64 (nxt R.done : Int))
  have k6 := (((((Kp.one (w := w) (p := p) 5 (.bool false)).trans (Kp.one (p := p) 6 (.int .u8 0))).trans (Kp.one (p := p) 7 (.int .i64 0))).trans (Kp.one (p := p) 8 (.int .i64 0))).trans (Kp.one (p := p) 1 (.int .i64 (-1)))).trans (Kp.one (p := p) 9 (.int .u64 (nxt R.done : Int)))
  have K6 := Lib.hid k6
  have c11 : (qD R (nxt R.done : Int))[11]? = some (.int .u64 (R.told : Int)) := by rw [qD_eq]; rfl
  have c12 : (qD R (nxt R.done : Int))[12]? = some (.bool R.on) := by rw [qD_eq]; rfl
  have c13 : (qD R (nxt R.done : Int))[13]? = some (.string (strB [])) := by rw [qD_eq]; rfl
  have s6 : SqS p 11 (qD R (nxt R.done : Int)) 59 R.told R.on [] _ := ⟨b6, c11, c12, c13, OK.out.told, fun e => ⟨OK.out.on e, by simp⟩, by simp⟩
  clear c11 c12 c13
  refine (rtell_any s6 (by simp) (strB []) rfl).mono ?_
  rintro e w7 ⟨rfl, k7, s7⟩
  have S7 := Lib.hid s7; have K7 := Lib.hid k7
  clear b6 k6 s6 s7 k7
  go_wp2
  go_ret
  refine ⟨rfl, ⟨?_⟩, K6.out.trans K7.out⟩
  have b := S7.out.blk
  rw [ite_self, qC_done] at b
  exact b

def HearQ (p : Nat) (R : Rob) (F : List Nat) (w : World) (e : Ending) (w' : World) : Prop := ∃ v', e = .returned v' ∧ Own BK 5 w' v' (hearB R F) ∧ (∀ g, v'.ownBlock = some g → w.heap.size ≤ g) ∧ QRobS p (hearS R F) w' ∧ Kp (fun k => k = p) w w'
theorem qC_act (R : Rob) (k : Nat) (c p : Int) : ((((qC R).setIfInBounds 5 (.bool true)).setIfInBounds 6 (.int .u8 (k : Int))).setIfInBounds 7 (.int .i64 c)).setIfInBounds 8 (.int .i64 p) = qC { R with act := some (k, c, p) } := rfl
theorem qC_self (R : Rob) (n : Nat) : ((qC R).setIfInBounds 12 (.bool false)).setIfInBounds 11 (.int .u64 (n : Int)) = qC { R with told := n, on := false } := rfl
theorem qC_heard (R : Rob) (n : Nat) : (qC R).setIfInBounds 10 (.int .u64 (n : Int)) = qC { R with heard := n } := rfl

set_option maxHeartbeats 1000000 in
set_option maxRecDepth 100000 in
theorem qHear_any {p : Nat} {v : Value} {R : Rob} {w : World} (h : QRobS p R w) (ok : R.ok) {F : List Nat} (hv : Rd BK w v F) (hl : F.length ≤ 1000000) (hx : ∀ x ∈ F, x < 256) (hdl : (tkD F).length ≤ 100000) (hdx : ∀ x ∈ tkD F, x < 256) :
    Calls Try.prog 25 #[.pointer (some ⟨p, 0, none⟩), v] w (HearQ p R F w) := by
  obtain ⟨A, cap, rfl⟩ := hv.shape
  have H := Lib.hid h; have OK := Lib.hid ok; have HV := Lib.hid hv; have HX := Lib.hid hx; have HDX := Lib.hid hdx
  obtain ⟨G, hG⟩ : ∃ G, G = hearB R F := ⟨_, rfl⟩
  have HG := Lib.hid hG
  obtain ⟨fr, hfr⟩ : ∃ fr, fr = freshB R.heard F := ⟨_, rfl⟩
  have HFR := Lib.hid hfr
  clear h ok hv hx hdx hG hfr
  cases fr with
  | false =>
    have hS : hearS R F = R := by
      have e : takesB R F = false := by unfold takesB; rw [← HFR.out]; rfl
      unfold hearS; rw [← HFR.out, e]; simp
    have HS := Lib.hid hS
    clear hS
    go_enter Try.func25, Try.ntmps25
    go_wp2_with fail
    refine (rrhear_any (H.out.rq OK.out) HV.out hl HX.out).mono ?_
    rintro e w1 ⟨v1, v2, rfl, k1, r1, o1, o2, g1, g2⟩
    rw [← HFR.out] at r1 o1 ⊢
    have o2 : Own BK 5 w1 v2 G := by rw [HG.out]; exact o2
    obtain ⟨A1, q1, rfl⟩ := o1.rd.shape
    obtain ⟨A2, q2, rfl⟩ := o2.rd.shape
    have R1 := Lib.hid r1.blk; have K1 := Lib.hid k1; have O2 := Lib.hid o2; have G2 := Lib.hid g2
    clear k1 r1 o1 o2 g1 g2
    go_wp2
    go_ret
    refine ⟨_, rfl, by rw [← HG.out]; exact O2.out, G2.out, ⟨?_⟩, K1.out⟩
    rw [HS.out]
    exact R1.out
  | true =>
    obtain ⟨D, hD⟩ : ∃ D, D = tkD F := ⟨_, rfl⟩
    rw [← hD] at hdl HDX
    obtain ⟨tk, htk⟩ : ∃ tk, tk = tkaOk D := ⟨_, rfl⟩
    have hE : tkaE D = if tk then 0 else 170 := by unfold tkaE; rw [htk]
    have ht : takesB R F = (R.act.isNone && tk) := by unfold takesB; rw [← HFR.out, ← hD, htk]; rfl
    have HD := Lib.hid hD; have HTK := Lib.hid htk; have HT := Lib.hid ht; have HE := Lib.hid hE
    obtain ⟨ac, hac⟩ : ∃ ac, ac = R.act.isSome := ⟨_, rfl⟩
    have HAC := Lib.hid hac
    have hno : (tk = false ∨ ac = true) → hearS R F = { R with heard := nxt R.heard } := by
      intro hh
      have e : takesB R F = false := by
        rw [ht]
        rcases hh with hh | hh
        · rw [hh]; simp
        · have hn : R.act.isNone = false := by
            cases ha : R.act with
            | none => rw [ha, hh] at hac; exact absurd hac (by decide)
            | some _ => rfl
          rw [hn]; rfl
      unfold hearS; rw [← HFR.out, e]; simp
    have HNO := Lib.hid hno
    clear hD htk ht hE hac hno
    have hcase : tk = false ∨ (tk = true ∧ ac = true) ∨ (tk = true ∧ ac = false ∧ R.on = false) ∨ (tk = true ∧ ac = false ∧ R.on = true) := by
      generalize R.on = o; cases tk <;> cases ac <;> cases o <;> simp
    rcases hcase with rfl | ⟨rfl, rfl⟩ | ⟨rfl, rfl, hon⟩ | ⟨rfl, rfl, hon⟩
    · have HE2 := Lib.hid (show tkaE D = 170 from HE.out)
      have HS := Lib.hid (HNO.out (.inl rfl))
      go_enter Try.func25, Try.ntmps25
      go_wp2_with fail
      refine (rrhear_any (H.out.rq OK.out) HV.out hl HX.out).mono ?_
      rintro e w1 ⟨v1, v2, rfl, k1, r1, o1, o2, g1, g2⟩
      rw [← HFR.out] at r1 o1 ⊢
      have o2 : Own BK 5 w1 v2 G := by rw [HG.out]; exact o2
      rw [if_pos rfl, ← HD.out] at o1
      rw [if_pos rfl] at r1
      obtain ⟨A1, q1, rfl⟩ := o1.rd.shape
      obtain ⟨A2, q2, rfl⟩ := o2.rd.shape
      have R1 := Lib.hid r1.blk; have K1 := Lib.hid k1; have O1 := Lib.hid o1; have O2 := Lib.hid o2; have G2 := Lib.hid g2
      clear k1 r1 o1 o2 g1 g2
      go_wp2_with fail
      refine (rtakeA_any O1.out.rd hdl HDX.out).mono ?_
      rintro e w2 ⟨rfl, k2⟩
      rw [HE2.out]
      have K2 := Lib.hid k2
      clear k2
      go_wp2
      go_ret
      refine ⟨_, rfl, by rw [← HG.out]; exact (O2.out.kpNo K2.out).alloc _, G2.out, ⟨?_⟩, (K1.out.no K2.out).alloc _⟩
      rw [HS.out, ← qC_heard]
      exact ((Kp.refl No w2).alloc _).blk (K2.out.blk R1.out (no_no _)) (no_no _)
    · have HE2 := Lib.hid (show tkaE D = 0 from HE.out)
      have HS := Lib.hid (HNO.out (.inr rfl))
      go_enter Try.func25, Try.ntmps25
      go_wp2_with fail
      refine (rrhear_any (H.out.rq OK.out) HV.out hl HX.out).mono ?_
      rintro e w1 ⟨v1, v2, rfl, k1, r1, o1, o2, g1, g2⟩
      rw [← HFR.out] at r1 o1 ⊢
      have o2 : Own BK 5 w1 v2 G := by rw [HG.out]; exact o2
      rw [if_pos rfl, ← HD.out] at o1
      rw [if_pos rfl, qC_heard] at r1
      obtain ⟨A1, q1, rfl⟩ := o1.rd.shape
      obtain ⟨A2, q2, rfl⟩ := o2.rd.shape
      have R1 := Lib.hid r1.blk; have K1 := Lib.hid k1; have O1 := Lib.hid o1; have O2 := Lib.hid o2; have G2 := Lib.hid g2
      clear k1 r1 o1 o2 g1 g2
      go_wp2_with fail
      refine (rtakeA_any O1.out.rd hdl HDX.out).mono ?_
      rintro e w2 ⟨rfl, k2⟩
      rw [HE2.out]
      have K2 := Lib.hid k2
      have c5 : ∀ o, (w2.alloc o).cell? ⟨p, 5, none⟩ = some (.bool true) := fun o => (blk_cell (blk_alloc (k2.blk R1.out (no_no _)) o) 5).trans (by rw [HAC.out]; rfl)
      clear k2
      go_wp2
      go_ret
      refine ⟨_, rfl, by rw [← HG.out]; exact (O2.out.kpNo K2.out).alloc _, G2.out, ⟨?_⟩, (K1.out.no K2.out).alloc _⟩
      rw [HS.out]
      exact ((Kp.refl No w2).alloc _).blk (K2.out.blk R1.out (no_no _)) (no_no _)
    · have HE2 := Lib.hid (show tkaE D = 0 from HE.out)
      have hact : R.act = none := by
        cases ha : R.act with
        | none => rfl
        | some _ => have := HAC.out; rw [ha] at this; exact absurd this (by simp)
      have HS : Hid (hearS R F = { R with heard := nxt R.heard, act := some (tkaK D, (tkaC D : Int), (tkaP D : Int)), told := R.told, on := false }) := Lib.hid (by
        unfold hearS tkaK tkaC tkaP; rw [← HFR.out, HT.out, hact, ← HTK.out, ← HD.out, hon]; simp)
      have HON := Lib.hid hon

      clear hact hon
      go_enter Try.func25, Try.ntmps25
      go_wp2_with fail
      refine (rrhear_any (H.out.rq OK.out) HV.out hl HX.out).mono ?_
      rintro e w1 ⟨v1, v2, rfl, k1, r1, o1, o2, g1, g2⟩
      rw [← HFR.out] at r1 o1 ⊢
      have o2 : Own BK 5 w1 v2 G := by rw [HG.out]; exact o2
      rw [if_pos rfl, ← HD.out] at o1
      rw [if_pos rfl, qC_heard] at r1
      obtain ⟨A1, q1, rfl⟩ := o1.rd.shape
      obtain ⟨A2, q2, rfl⟩ := o2.rd.shape
      have R1 := Lib.hid r1.blk; have K1 := Lib.hid k1; have O1 := Lib.hid o1; have O2 := Lib.hid o2; have G2 := Lib.hid g2
      clear k1 r1 o1 o2 g1 g2
      go_wp2_with fail
      refine (rtakeA_any O1.out.rd hdl HDX.out).mono ?_
      rintro e w2 ⟨rfl, k2⟩
      rw [HE2.out]
      have K2 := Lib.hid k2
      obtain ⟨w3, hw3⟩ : ∃ w3, w3 = w2.alloc (.cells #[.int .u8 (tkaK D : Int), .int .i64 (tkaC D : Int), .int .i64 (tkaP D : Int)] 32) := ⟨_, rfl⟩
      have R3 : Hid (w3.heap[p]? = some (.cells (qC { R with heard := nxt R.heard }) 59 (0, 0))) := Lib.hid (by rw [hw3]; exact blk_alloc (k2.blk R1.out (no_no _)) _)
      have B3 : Hid (w3.heap[w2.heap.size]? = some (.cells #[.int .u8 (tkaK D : Int), .int .i64 (tkaC D : Int), .int .i64 (tkaP D : Int)] 32 (0, 0))) := Lib.hid (by rw [hw3]; exact blk_new w2 _)
      have K3 := Lib.hid (show Kp (fun k => k = p) w w3 by rw [hw3]; exact (K1.out.no k2).alloc _)
      have O3 := Lib.hid (show Own BK 5 w3 (.slice A2 G.length q2) G by rw [hw3]; exact (O2.out.kpNo k2).alloc _)
      have NE := Lib.hid (show w2.heap.size ≠ p from fun e => by have := lt_of_block (k2.blk R1.out (no_no _)); omega)
      obtain ⟨bx, hbx⟩ : ∃ bx, bx = w2.heap.size := ⟨_, rfl⟩
      have c5 : w3.cell? ⟨p, 5, none⟩ = some (.bool false) := (blk_cell R3.out 5).trans (by rw [HAC.out]; rfl)
      have c12 : w3.cell? ⟨p, 12, none⟩ = some (.bool false) := (blk_cell R3.out 12).trans (by rw [← HON.out]; rfl)
      have c11 : w3.cell? ⟨p, 11, none⟩ = some (.int .u64 (R.told : Int)) := (blk_cell R3.out 11).trans rfl
      have c6 : w3.cell? ⟨p, 6, none⟩ = some (.int .u8 (actK R : Int)) := (blk_cell R3.out 6).trans rfl
      have c7 : w3.cell? ⟨p, 7, none⟩ = some (.int .i64 (actC R)) := (blk_cell R3.out 7).trans rfl
      have c8 : w3.cell? ⟨p, 8, none⟩ = some (.int .i64 (actP R)) := (blk_cell R3.out 8).trans rfl
      have f5 := blk_free R3.out 5; have f6 := blk_free R3.out 6; have f7 := blk_free R3.out 7; have f8 := blk_free R3.out 8; have f11 := blk_free R3.out 11; have f12 := blk_free R3.out 12
      have a0 : w3.cell? ⟨bx, 0, none⟩ = some (.int .u8 (tkaK D : Int)) := by rw [hbx]; exact (blk_cell B3.out 0).trans rfl
      have a1 : w3.cell? ⟨bx, 1, none⟩ = some (.int .i64 (tkaC D : Int)) := by rw [hbx]; exact (blk_cell B3.out 1).trans rfl
      have a2 : w3.cell? ⟨bx, 2, none⟩ = some (.int .i64 (tkaP D : Int)) := by rw [hbx]; exact (blk_cell B3.out 2).trans rfl
      have hne : bx ≠ p := by rw [hbx]; exact NE.out
      have hne2 : p ≠ bx := fun e => hne e.symm
      clear k2
      subst hw3 hbx
      go_wp2
      go_ret
      have kE := (((Kp.one (w := w2.alloc (.cells #[.int .u8 (tkaK D : Int), .int .i64 (tkaC D : Int), .int .i64 (tkaP D : Int)] 32)) (p := p) 5 (.bool true)).trans (Kp.one (p := p) 6 (.int .u8 (tkaK D : Int)))).trans (Kp.one (p := p) 7 (.int .i64 (tkaC D : Int)))).trans (Kp.one (p := p) 8 (.int .i64 (tkaP D : Int)))
      have bE := blk_set (blk_set (blk_set (blk_set (R3.out) 5 (.bool true)) 6 (.int .u8 (tkaK D : Int))) 7 (.int .i64 (tkaC D : Int))) 8 (.int .i64 (tkaP D : Int))
      rw [qC_act] at bE
      refine ⟨_, rfl, by rw [← HG.out]; exact O3.out.kpB kE ((Ty.one R3.out).byt (by decide)), G2.out, ⟨?_⟩, K3.out.trans kE⟩
      rw [HS.out, ← HON.out]
      exact bE
    · have HE2 := Lib.hid (show tkaE D = 0 from HE.out)
      have hact : R.act = none := by
        cases ha : R.act with
        | none => rfl
        | some _ => have := HAC.out; rw [ha] at this; exact absurd this (by simp)
      have HS : Hid (hearS R F = { R with heard := nxt R.heard, act := some (tkaK D, (tkaC D : Int), (tkaP D : Int)), told := R.told + 1, on := false }) := Lib.hid (by
        unfold hearS tkaK tkaC tkaP; rw [← HFR.out, HT.out, hact, ← HTK.out, ← HD.out, hon]; simp)
      have HON := Lib.hid hon
      have hw : IntKind.u64.wrap ((R.told : Int) + 1) = ((R.told + 1 : Nat) : Int) := (by rw [Int.natCast_add]; exact IntWalk.u64_in _ (by have := OK.out.on hon; omega))
      clear hact hon
      go_enter Try.func25, Try.ntmps25
      go_wp2_with fail
      refine (rrhear_any (H.out.rq OK.out) HV.out hl HX.out).mono ?_
      rintro e w1 ⟨v1, v2, rfl, k1, r1, o1, o2, g1, g2⟩
      rw [← HFR.out] at r1 o1 ⊢
      have o2 : Own BK 5 w1 v2 G := by rw [HG.out]; exact o2
      rw [if_pos rfl, ← HD.out] at o1
      rw [if_pos rfl, qC_heard] at r1
      obtain ⟨A1, q1, rfl⟩ := o1.rd.shape
      obtain ⟨A2, q2, rfl⟩ := o2.rd.shape
      have R1 := Lib.hid r1.blk; have K1 := Lib.hid k1; have O1 := Lib.hid o1; have O2 := Lib.hid o2; have G2 := Lib.hid g2
      clear k1 r1 o1 o2 g1 g2
      go_wp2_with fail
      refine (rtakeA_any O1.out.rd hdl HDX.out).mono ?_
      rintro e w2 ⟨rfl, k2⟩
      rw [HE2.out]
      have K2 := Lib.hid k2
      obtain ⟨w3, hw3⟩ : ∃ w3, w3 = w2.alloc (.cells #[.int .u8 (tkaK D : Int), .int .i64 (tkaC D : Int), .int .i64 (tkaP D : Int)] 32) := ⟨_, rfl⟩
      have R3 : Hid (w3.heap[p]? = some (.cells (qC { R with heard := nxt R.heard }) 59 (0, 0))) := Lib.hid (by rw [hw3]; exact blk_alloc (k2.blk R1.out (no_no _)) _)
      have B3 : Hid (w3.heap[w2.heap.size]? = some (.cells #[.int .u8 (tkaK D : Int), .int .i64 (tkaC D : Int), .int .i64 (tkaP D : Int)] 32 (0, 0))) := Lib.hid (by rw [hw3]; exact blk_new w2 _)
      have K3 := Lib.hid (show Kp (fun k => k = p) w w3 by rw [hw3]; exact (K1.out.no k2).alloc _)
      have O3 := Lib.hid (show Own BK 5 w3 (.slice A2 G.length q2) G by rw [hw3]; exact (O2.out.kpNo k2).alloc _)
      have NE := Lib.hid (show w2.heap.size ≠ p from fun e => by have := lt_of_block (k2.blk R1.out (no_no _)); omega)
      obtain ⟨bx, hbx⟩ : ∃ bx, bx = w2.heap.size := ⟨_, rfl⟩
      have c5 : w3.cell? ⟨p, 5, none⟩ = some (.bool false) := (blk_cell R3.out 5).trans (by rw [HAC.out]; rfl)
      have c12 : w3.cell? ⟨p, 12, none⟩ = some (.bool true) := (blk_cell R3.out 12).trans (by rw [← HON.out]; rfl)
      have c11 : w3.cell? ⟨p, 11, none⟩ = some (.int .u64 (R.told : Int)) := (blk_cell R3.out 11).trans rfl
      have c6 : w3.cell? ⟨p, 6, none⟩ = some (.int .u8 (actK R : Int)) := (blk_cell R3.out 6).trans rfl
      have c7 : w3.cell? ⟨p, 7, none⟩ = some (.int .i64 (actC R)) := (blk_cell R3.out 7).trans rfl
      have c8 : w3.cell? ⟨p, 8, none⟩ = some (.int .i64 (actP R)) := (blk_cell R3.out 8).trans rfl
      have f5 := blk_free R3.out 5; have f6 := blk_free R3.out 6; have f7 := blk_free R3.out 7; have f8 := blk_free R3.out 8; have f11 := blk_free R3.out 11; have f12 := blk_free R3.out 12
      have a0 : w3.cell? ⟨bx, 0, none⟩ = some (.int .u8 (tkaK D : Int)) := by rw [hbx]; exact (blk_cell B3.out 0).trans rfl
      have a1 : w3.cell? ⟨bx, 1, none⟩ = some (.int .i64 (tkaC D : Int)) := by rw [hbx]; exact (blk_cell B3.out 1).trans rfl
      have a2 : w3.cell? ⟨bx, 2, none⟩ = some (.int .i64 (tkaP D : Int)) := by rw [hbx]; exact (blk_cell B3.out 2).trans rfl
      have hne : bx ≠ p := by rw [hbx]; exact NE.out
      have hne2 : p ≠ bx := fun e => hne e.symm
      clear k2
      subst hw3 hbx
      go_wp2
      go_ret
      have kE := (((((Kp.one (w := w2.alloc (.cells #[.int .u8 (tkaK D : Int), .int .i64 (tkaC D : Int), .int .i64 (tkaP D : Int)] 32)) (p := p) 12 (.bool false)).trans (Kp.one (p := p) 11 (.int .u64 ((R.told + 1 : Nat) : Int)))).trans (Kp.one (p := p) 5 (.bool true))).trans (Kp.one (p := p) 6 (.int .u8 (tkaK D : Int)))).trans (Kp.one (p := p) 7 (.int .i64 (tkaC D : Int)))).trans (Kp.one (p := p) 8 (.int .i64 (tkaP D : Int)))
      have bE := blk_set (blk_set (blk_set (blk_set (blk_set (blk_set (R3.out) 12 (.bool false)) 11 (.int .u64 ((R.told + 1 : Nat) : Int))) 5 (.bool true)) 6 (.int .u8 (tkaK D : Int))) 7 (.int .i64 (tkaC D : Int))) 8 (.int .i64 (tkaP D : Int))
      rw [qC_self, qC_act] at bE
      refine ⟨_, rfl, by rw [← HG.out]; exact O3.out.kpB kE ((Ty.one R3.out).byt (by decide)), G2.out, ⟨?_⟩, K3.out.trans kE⟩
      rw [HS.out]
      exact bE
end Go.Proofs.Ytbafdfkmakehnaa

namespace Go.Proofs.Ytbafdfkmakehnaa
set_option linter.unusedVariables false
set_option linter.unusedSimpArgs false
open Go.RowKit

set_option maxRecDepth 100000 in
theorem qCells_any {p : Nat} {R : Rob} {w : World} (h : QRobS p R w) (ok : R.ok) : Calls Try.prog 28 #[.pointer (some ⟨p, 0, none⟩)] w (CellsR (cellsL R) w) := by
  have c0 : w.cell? ⟨p, 0, none⟩ = some (.int .i64 R.cell) := (blk_cell h.blk 0).trans rfl
  have c1 : w.cell? ⟨p, 1, none⟩ = some (.int .i64 R.to_) := (blk_cell h.blk 1).trans rfl
  have hgo := ok.go
  clear h ok
  by_cases h1 : R.to_ = -1
  · have HC := Lib.hid (show cellsL R = [R.cell] by unfold cellsL; rw [if_pos (.inl h1)])
    have h1b : decide (0 ≤ R.to_) = false := by rw [h1]; rfl
    clear h1 hgo
    go_enter Try.func28, Try.ntmps28
    go_wp2
    go_quiet (fail)
    have c1' : (w.drewN nq).cell? ⟨p, 0, none⟩ = some (.int .i64 R.cell) := c0
    go_wp2
    go_ret
    exact ⟨_, rfl, by rw [HC.out]; exact int_new (w.drewN nq) w [.int .i64 R.cell] [R.cell] rfl (by simp) ((Kp.refl No w).drewN nq) 1 rfl⟩
  · have h0 : 0 ≤ R.to_ := by
      rcases hgo with e | ⟨_, e⟩
      · exact absurd e h1
      · exact e
    have h1b : decide (0 ≤ R.to_) = true := by simpa using h0
    by_cases h2 : R.to_ = R.cell
    · have HC := Lib.hid (show cellsL R = [R.cell] by unfold cellsL; rw [if_pos (.inr h2)])
      have h2b : (R.to_ != R.cell) = false := by rw [h2]; simp
      clear h1 h2 h0 hgo
      go_enter Try.func28, Try.ntmps28
      go_wp2
      go_quiet (fail)
      have c1' : (w.drewN nq).cell? ⟨p, 0, none⟩ = some (.int .i64 R.cell) := c0
      go_wp2
      go_ret
      exact ⟨_, rfl, by rw [HC.out]; exact int_new (w.drewN nq) w [.int .i64 R.cell] [R.cell] rfl (by simp) ((Kp.refl No w).drewN nq) 1 rfl⟩
    · have HC := Lib.hid (show cellsL R = [R.cell, R.to_] by unfold cellsL; rw [if_neg (fun h => h.elim h1 h2)])
      have h2b : (R.to_ != R.cell) = true := by simpa using h2
      clear h1 h2 h0 hgo
      go_enter Try.func28, Try.ntmps28
      go_wp2
      go_quiet (fail)
      obtain ⟨w1, hw1⟩ : ∃ w1, w1 = w.drewN nq := ⟨_, rfl⟩
      have c1' : w1.cell? ⟨p, 0, none⟩ = some (.int .i64 R.cell) := by rw [hw1]; exact c0
      have c2' : w1.cell? ⟨p, 1, none⟩ = some (.int .i64 R.to_) := by rw [hw1]; exact c1
      have K1 := Lib.hid (show Kp No w w1 by rw [hw1]; exact (Kp.refl No w).drewN nq)
      rw [← hw1]
      clear hw1 c0 c1
      go_wp2
      go_still_tail 8, (by kernel_rfl)
      change wpList _ _ _ _ _ w1.drew
      have c3' : w1.drew.cell? ⟨p, 0, none⟩ = some (.int .i64 R.cell) := c1'
      have c4' : w1.drew.cell? ⟨p, 1, none⟩ = some (.int .i64 R.to_) := c2'
      go_wp2
      go_ret
      exact ⟨_, rfl, by rw [HC.out]; exact int_new w1.drew w [.int .i64 R.cell, .int .i64 R.to_] [R.cell, R.to_] rfl (by simp) K1.out.drew 2 rfl⟩

def StepQ (p : Nat) (R : Rob) (w : World) (e : Ending) (w' : World) : Prop := e = .returned (.bool (stepB R)) ∧ QRobS p (stepS R) w' ∧ Kp (fun k => k = p) w w'
theorem qC_go (R : Rob) (ch c : Int) : ((qC R).setIfInBounds 4 (.int .i64 ch)).setIfInBounds 1 (.int .i64 c) = qC { R with charge := ch, to_ := c } := rfl
theorem qC_come (R : Rob) (c : Int) : (qC R).setIfInBounds 0 (.int .i64 c) = qC { R with cell := c } := rfl
theorem qC_full (R : Rob) (c : Int) : (qC R).setIfInBounds 4 (.int .i64 c) = qC { R with charge := c } := rfl

set_option maxHeartbeats 1000000 in
set_option maxRecDepth 100000 in
theorem qStep_any {p : Nat} {R : Rob} {w : World} (h : QRobS p R w) (ok : R.ok) : Calls Try.prog 23 #[.pointer (some ⟨p, 0, none⟩)] w (StepQ p R w) := by
  have H := Lib.hid h; have OK := Lib.hid ok
  have hpl := lt_of_block h.blk
  have c0 : w.cell? ⟨p, 0, none⟩ = some (.int .i64 R.cell) := (blk_cell h.blk 0).trans rfl
  have c1 : w.cell? ⟨p, 1, none⟩ = some (.int .i64 R.to_) := (blk_cell h.blk 1).trans rfl
  have c2 : w.cell? ⟨p, 2, none⟩ = some (.int .i64 R.dock) := (blk_cell h.blk 2).trans rfl
  have c3 : w.cell? ⟨p, 3, none⟩ = some (.int .i64 R.full) := (blk_cell h.blk 3).trans rfl
  have c4 : w.cell? ⟨p, 4, none⟩ = some (.int .i64 R.charge) := (blk_cell h.blk 4).trans rfl
  have c5 : w.cell? ⟨p, 5, none⟩ = some (.bool R.act.isSome) := (blk_cell h.blk 5).trans rfl
  have c6 : w.cell? ⟨p, 6, none⟩ = some (.int .u8 (actK R : Int)) := (blk_cell h.blk 6).trans rfl
  have c7 : w.cell? ⟨p, 7, none⟩ = some (.int .i64 (actC R)) := (blk_cell h.blk 7).trans rfl
  have f0 := blk_free h.blk 0; have f1 := blk_free h.blk 1; have f4 := blk_free h.blk 4
  have hch := ok.ch; have hchb := ok.chb
  cases hact : R.act with
  | none =>
    have HE := Lib.hid (show stepB R = false by unfold stepB; rw [hact])
    have HS := Lib.hid (show stepS R = R by unfold stepS; rw [hact])
    rw [hact] at c5
    have c5' : w.cell? ⟨p, 5, none⟩ = some (.bool false) := c5
    clear h ok hact c5
    go_enter Try.func23, Try.ntmps23
    go_wp2
    go_ret
    exact ⟨by rw [HE.out]; rfl, by rw [HS.out]; exact H.out, Kp.refl _ _⟩
  | some x =>
    obtain ⟨k, c, q⟩ := x
    have hm := mayA_spec (ok.act _ _ _ hact)
    have hgo := ok.go
    have c5' : w.cell? ⟨p, 5, none⟩ = some (.bool true) := by rw [c5, hact]; rfl
    have c6' : w.cell? ⟨p, 6, none⟩ = some (.int .u8 (k : Int)) := by rw [c6]; unfold actK; rw [hact]
    have c7' : w.cell? ⟨p, 7, none⟩ = some (.int .i64 c) := by rw [c7]; unfold actC; rw [hact]
    have HACT := Lib.hid hact
    have hE : stepB R = !(decide (k = 1) && decide (R.to_ = -1)) := by unfold stepB; rw [hact]
    have hS : stepS R = if k = 1 then (if R.to_ = -1 then (if 0 < R.charge then { R with charge := R.charge - 1, to_ := c } else R) else doneS { R with cell := R.to_, to_ := -1, charge := if R.to_ = R.dock then R.full else R.charge }) else doneS R := by unfold stepS; rw [hact]
    have HE := Lib.hid hE; have HS := Lib.hid hS
    clear h ok hE hS c5 c6 c7
    by_cases hk1 : k = 1
    · subst hk1
      by_cases ht : R.to_ = -1
      · have htb : ¬ (0 : Int) ≤ R.to_ := by omega
        have HE2 := Lib.hid (show stepB R = false by rw [HE.out, decide_eq_true ht]; rfl)
        by_cases hc : 0 < R.charge
        · have HS2 := Lib.hid (show stepS R = { R with charge := R.charge - 1, to_ := c } by rw [HS.out, if_pos rfl, if_pos ht, if_pos hc])
          have ew : IntKind.i64.wrap (R.charge - 1) = R.charge - 1 := IntWalk.i64_in _ (by omega)
          clear hm ht hgo hact
          go_enter Try.func23, Try.ntmps23
          go_wp2
          go_ret
          have bE := blk_set (blk_set H.out.blk 4 (.int .i64 (R.charge - 1))) 1 (.int .i64 c)
          have kE := (Kp.one (w := w) (p := p) 4 (.int .i64 (R.charge - 1))).trans (Kp.one (p := p) 1 (.int .i64 c))
          rw [qC_go] at bE
          exact ⟨by rw [HE2.out]; rfl, by rw [HS2.out]; exact ⟨bE⟩, kE⟩
        · have HS2 := Lib.hid (show stepS R = R by rw [HS.out, if_pos rfl, if_pos ht, if_neg hc])
          clear hm ht hgo hact
          go_enter Try.func23, Try.ntmps23
          go_wp2
          go_ret
          exact ⟨by rw [HE2.out]; rfl, by rw [HS2.out]; exact H.out, Kp.refl _ _⟩
      · have ht0 : 0 ≤ R.to_ := by
          rcases hgo with e | ⟨_, e⟩
          · exact absurd e ht
          · exact e
        have HE2 := Lib.hid (show stepB R = true by rw [HE.out, decide_eq_false ht]; rfl)
        have HGO := Lib.hid (show (∃ p, R.act = some (1, R.to_, p)) ∧ 0 ≤ R.to_ from hgo.resolve_left ht)
        by_cases hd : R.to_ = R.dock
        · have HS2 := Lib.hid (show stepS R = doneS { R with cell := R.to_, to_ := -1, charge := R.full } by rw [HS.out, if_pos rfl, if_neg ht, if_pos hd])
          have hdb : (R.to_ == R.dock) = true := by rw [hd]; simp
          have OK2 : Hid ({ R with cell := R.to_, charge := R.full } : Rob).ok := Lib.hid ⟨OK.out.act, .inr HGO.out, OK.out.fullb.1, OK.out.fullb.2, OK.out.fullb, OK.out.done, OK.out.heard, OK.out.told, OK.out.on⟩
          clear hm ht hgo hd hact
          go_enter Try.func23, Try.ntmps23
          go_wp2_with fail
          have b1 := blk_set H.out.blk 0 (.int .i64 R.to_)
          rw [qC_come] at b1
          have B1 := Lib.hid b1
          have q0 : (w.setCell ⟨p, 0, none⟩ (.int .i64 R.to_)).cell? ⟨p, 0, none⟩ = some (.int .i64 R.to_) := (blk_cell b1 0).trans rfl
          have q2 : (w.setCell ⟨p, 0, none⟩ (.int .i64 R.to_)).cell? ⟨p, 2, none⟩ = some (.int .i64 R.dock) := (blk_cell b1 2).trans rfl
          have K1 := Lib.hid (Kp.one (w := w) (p := p) 0 (.int .i64 R.to_))
          obtain ⟨w2, hw2⟩ : ∃ w2, w2 = w.setCell ⟨p, 0, none⟩ (.int .i64 R.to_) := ⟨_, rfl⟩
          rw [← hw2] at q0 q2 B1 K1 ⊢
          clear b1 hw2
          go_quiet (fail)
          have q3 : (w2.drewN nq).cell? ⟨p, 3, none⟩ = some (.int .i64 R.full) := (blk_cell B1.out 3).trans rfl
          have q4 : (w2.drewN nq).cell? ⟨p, 4, none⟩ = some (.int .i64 R.charge) := (blk_cell B1.out 4).trans rfl
          have g4 : (w2.drewN nq).frozen? ⟨p, 4, none⟩ = false := blk_free B1.out 4
          have b2 := blk_set (w := w2.drewN nq) B1.out 4 (.int .i64 R.full)
          rw [qC_full] at b2
          have B2 : Hid (QRobS p { R with cell := R.to_, charge := R.full } ((w2.drewN nq).setCell ⟨p, 4, none⟩ (.int .i64 R.full))) := Lib.hid ⟨b2⟩
          have K2 := Lib.hid ((K1.out.drewN nq).trans (Kp.one (p := p) 4 (.int .i64 R.full)))
          clear b2
          go_wp2_with fail
          refine (qdone_any B2.out OK2.out).mono ?_
          rintro e w3 ⟨rfl, d3, k3⟩
          have D3 := Lib.hid d3; have K3 := Lib.hid (K2.out.trans k3)
          clear d3 k3
          go_wp2
          go_ret
          exact ⟨by rw [HE2.out]; rfl, by rw [HS2.out]; exact D3.out, K3.out⟩
        · have HS2 := Lib.hid (show stepS R = doneS { R with cell := R.to_, to_ := -1, charge := R.charge } by rw [HS.out, if_pos rfl, if_neg ht, if_neg hd])
          have hdb : (R.to_ == R.dock) = false := by simpa using hd
          have OK2 : Hid ({ R with cell := R.to_ } : Rob).ok := Lib.hid ⟨OK.out.act, .inr HGO.out, OK.out.ch, OK.out.chb, OK.out.fullb, OK.out.done, OK.out.heard, OK.out.told, OK.out.on⟩
          clear hm ht hgo hd hact
          go_enter Try.func23, Try.ntmps23
          go_wp2_with fail
          have b1 := blk_set H.out.blk 0 (.int .i64 R.to_)
          rw [qC_come] at b1
          have B1 := Lib.hid b1
          have q0 : (w.setCell ⟨p, 0, none⟩ (.int .i64 R.to_)).cell? ⟨p, 0, none⟩ = some (.int .i64 R.to_) := (blk_cell b1 0).trans rfl
          have q2 : (w.setCell ⟨p, 0, none⟩ (.int .i64 R.to_)).cell? ⟨p, 2, none⟩ = some (.int .i64 R.dock) := (blk_cell b1 2).trans rfl
          have K1 := Lib.hid (Kp.one (w := w) (p := p) 0 (.int .i64 R.to_))
          obtain ⟨w2, hw2⟩ : ∃ w2, w2 = w.setCell ⟨p, 0, none⟩ (.int .i64 R.to_) := ⟨_, rfl⟩
          rw [← hw2] at q0 q2 B1 K1 ⊢
          clear b1 hw2
          go_quiet (fail)
          have B2 : Hid (QRobS p { R with cell := R.to_ } (w2.drewN nq)) := Lib.hid ⟨B1.out⟩
          have K2 := Lib.hid (K1.out.drewN nq)
          go_wp2_with fail
          refine (qdone_any B2.out OK2.out).mono ?_
          rintro e w3 ⟨rfl, d3, k3⟩
          have D3 := Lib.hid d3; have K3 := Lib.hid (K2.out.trans k3)
          clear d3 k3
          go_wp2
          go_ret
          exact ⟨by rw [HE2.out]; rfl, by rw [HS2.out]; exact D3.out, K3.out⟩
    · have hkb : ((k : Int) != 1) = true := by simp; omega
      have HE2 := Lib.hid (show stepB R = true by rw [HE.out, decide_eq_false hk1]; rfl)
      have ht : R.to_ = -1 := by
        rcases hgo with e | ⟨⟨p', e⟩, _⟩
        · exact e
        · rw [hact] at e
          simp only [Option.some.injEq, Prod.mk.injEq] at e
          exact absurd e.1 hk1
      have HS2 := Lib.hid (show stepS R = doneS { R with to_ := -1 } by rw [HS.out, if_neg hk1, ← ht])
      clear hm hgo ht hact
      go_enter Try.func23, Try.ntmps23
      go_wp2_with fail
      refine (qdone_any H.out OK.out).mono ?_
      rintro e w3 ⟨rfl, d3, k3⟩
      have D3 := Lib.hid d3; have K3 := Lib.hid k3
      clear d3 k3
      go_wp2
      go_ret
      exact ⟨by rw [HE2.out]; rfl, by rw [HS2.out]; exact D3.out, K3.out⟩
end Go.Proofs.Ytbafdfkmakehnaa

namespace Go.Proofs.Ytbafdfkmakehnaa
set_option linter.unusedVariables false
set_option linter.unusedSimpArgs false
open Go.RowKit

theorem pktA_lt (n k : Nat) (c p : Int) : ∀ x ∈ pktA n k c p, x < 256 := layL_lt _ _ _
theorem pktA_len (n k : Nat) (c p : Int) (hn : n < 18446744073709551616) : (pktA n k c p).length ≤ 1000000 := Nat.le_trans (layL_len _ _ _ hn) (by decide)
/-- A packet with the next number comes to a robot that has nothing to do. -/
theorem hear_next {R : Rob} {n k : Nat} {c p : Int} (hn : n < 18446744073709551615) (hm : mayA k c p = true) (hh : R.heard + 1 = n) (ha : R.act = none) :
    hearS R (pktA n k c p) = { R with heard := n, act := some (k, c, p), told := if R.on then R.told + 1 else R.told, on := false } ∧ hearB R (pktA n k c p) = layL true n [] := by
  have hx := layA_lt k c p
  obtain ⟨q1, q2, q3, q4⟩ := ack_laid R.heard n (layA k c p) hn (Nat.le_trans (layA_le _ _ _) (by decide)) hx
  have hnx : nxt R.heard = n := by unfold nxt; omega
  obtain ⟨t1, t2, t3, t4⟩ := take_layA hm
  have hf : freshB R.heard (pktA n k c p) = true := by unfold pktA; rw [q2, hnx]; simp; omega
  have hk : ackB R.heard (pktA n k c p) = true := by unfold pktA; rw [q1, hnx]; simp; omega
  have hd : tkD (pktA n k c p) = layA k c p := q4
  have hN : tkN (pktA n k c p) = n := q3
  have ht : takesB R (pktA n k c p) = true := by unfold takesB; rw [hf, ha, hd, t1]; rfl
  constructor
  · unfold hearS
    rw [hf, ht, hd, t2, t3, t4, hnx]
    simp
  · unfold hearB
    rw [hk, hN, if_pos rfl]

theorem rob_ok_of {R : Rob} (h1 : ∀ k c p, R.act = some (k, c, p) → mayA k c p = true) (h2 : R.to_ = -1 ∨ ((∃ p, R.act = some (1, R.to_, p)) ∧ 0 ≤ R.to_)) (h3 : 0 ≤ R.charge) (h4 : R.charge ≤ 9223372036854775807) (h5 : 0 ≤ R.full ∧ R.full ≤ 9223372036854775807)
    (h6 : R.done < 10000) (h7 : R.heard < 10000) (h8 : R.told < 10000) : R.ok := ⟨h1, h2, h3, h4, h5, by omega, by omega, by omega, fun _ => by omega⟩

def S1 : Rob := { newRob 0 9 with heard := 1, act := some (1, 1, 0) }
def S2 : Rob := { newRob 0 9 with heard := 1, act := some (1, 1, 0), charge := 8, to_ := 1 }
def S3 : Rob := { newRob 0 9 with heard := 1, act := none, charge := 8, to_ := -1, cell := 1, done := 1, on := true }
theorem s1_eq : hearS (newRob 0 9) (pktA 1 1 1 0) = S1 := (hear_next (by decide) (by decide) rfl rfl).1
theorem s1_b : hearB (newRob 0 9) (pktA 1 1 1 0) = layL true 1 [] := (hear_next (by decide) (by decide) rfl rfl).2
theorem s2_eq : stepS S1 = S2 ∧ stepB S1 = false := ⟨rfl, rfl⟩
theorem s3_eq : stepS S2 = S3 ∧ stepB S2 = true := ⟨rfl, rfl⟩
theorem s_ok : (newRob 0 9).ok ∧ S1.ok ∧ S2.ok := by
  refine ⟨newRob_ok (by decide) (by decide), ?_, ?_⟩
  · exact rob_ok_of (fun k c p e => by have e : some (1, (1 : Int), (0 : Int)) = some (k, c, p) := e; simp at e; obtain ⟨rfl, rfl, rfl⟩ := e; decide) (.inl rfl) (by decide) (by decide) (by decide) (by decide) (by decide) (by decide)
  · exact rob_ok_of (fun k c p e => by have e : some (1, (1 : Int), (0 : Int)) = some (k, c, p) := e; simp at e; obtain ⟨rfl, rfl, rfl⟩ := e; decide) (.inr ⟨⟨0, rfl⟩, by decide⟩) (by decide) (by decide) (by decide) (by decide) (by decide) (by decide)

theorem ints_lit (w : World) (cs : Array Value) (l : List Int) (hc : cs.toList = IK.encs l) (hm : l.length ≤ 1000) (n : Nat) (hn : n = l.length) : Rd IK (w.alloc (.cells cs 3)) (.slice (some ⟨w.heap.size, 0, none⟩) n n) l :=
  Rd.litAt IK 3 w cs l hc (by unfold maxLen; omega) _ n rfl hn

set_option maxRecDepth 100000 in
theorem shown18 (w : World) : Calls Try.prog 8 #[] w fun e w' => e = .returned (.bool true) ∧ Kp No w w' := by
  have HP := Lib.hid (layT_pos 1 (by decide))
  go_enter Try.func8, Try.ntmps8
  go_wp2_with fail
  refine (newA 0 9 w).mono ?_
  rintro e w1 (⟨h, _⟩ | ⟨_, p, ph, ps, rfl, a1⟩)
  · exact absurd h (by decide)
  have A1 := Lib.hid a1
  clear a1
  go_wp2_with fail
  refine (packet18_any 1 1 1 0 (by decide) (by decide) w1 _ rfl).mono ?_
  rintro e w2 ⟨v2, rfl, k2⟩
  have A2 := Lib.hid (A1.out.no k2.kp); have K2 := Lib.hid k2
  clear k2
  go_wp2_with fail
  refine (hearA A2.out s_ok.1 K2.out.own.rd (pktA_len _ _ _ _ (by decide)) (pktA_lt _ _ _ _)).mono ?_
  rintro e w3 ⟨v3, rfl, o3, _, a3, _⟩
  rw [s1_eq] at a3
  rw [s1_b] at o3
  obtain ⟨L, hL⟩ : ∃ L, L = layL true 1 [] := ⟨_, rfl⟩
  rw [← hL] at o3
  have hLp : 0 < L.length := by rw [hL]; exact HP.out
  have hL0 : ((L.length : Int) == 0) = false := by rw [beq_eq_false_iff_ne]; omega
  have hL1 : (L.length == 0) = false := by rw [beq_eq_false_iff_ne]; omega
  have hL2 : L ≠ [] := by intro e; rw [e] at hLp; simp at hLp
  obtain ⟨A3', c3, rfl⟩ := o3.rd.shape
  have A3 := Lib.hid a3
  clear a3 o3 hL hLp
  go_wp2_with fail
  refine (stepA A3.out s_ok.2.1).mono ?_
  rintro e w4 ⟨rfl, a4, _⟩
  rw [s2_eq.1] at a4
  rw [s2_eq.2]
  have A4 := Lib.hid a4
  clear a4
  go_wp2_with fail
  refine (cellsA A4.out).mono ?_
  rintro e w5 ⟨v5, rfl, k5⟩
  replace k5 : NewS IK 3 w4 w5 v5 [0, 1] := k5
  obtain ⟨A5', c5, rfl⟩ := k5.own.rd.shape
  have A5 := Lib.hid (A4.out.no k5.kp); have K5 := Lib.hid k5
  clear k5
  go_wp2_with fail
  refine (stepA A5.out s_ok.2.2).mono ?_
  rintro e w6 ⟨rfl, a6, q6⟩
  have I6 := Lib.hid (q6.own K5.out.own (by decide))
  clear q6
  rw [s3_eq.1] at a6
  rw [s3_eq.2]
  have A6 := Lib.hid a6
  clear a6
  go_wp2_with fail
  refine (cellsA A6.out).mono ?_
  rintro e w7 ⟨v7, rfl, k7⟩
  replace k7 : NewS IK 3 w6 w7 v7 [1] := k7
  obtain ⟨A7', c7, rfl⟩ := k7.own.rd.shape
  have A7 := Lib.hid (A6.out.no k7.kp); have K7 := Lib.hid k7
  clear k7
  go_wp2_with fail
  refine (packetA A7.out).mono ?_
  rintro e w8 ⟨v8, rfl, k8⟩
  obtain ⟨A8', c8, rfl⟩ := k8.own.rd.shape
  have A8 := Lib.hid (A7.out.no k8.kp); have K8 := Lib.hid k8
  clear k8
  have I8 := Lib.hid ((I6.out.kpNo K7.out.kp).kpNo K8.out.kp)
  have J8 := Lib.hid (K7.out.own.kpNo K8.out.kp)
  have hon : S3.on = true := rfl
  rw [hon]
  clear hon
  go_wp2_with fail
  refine (sameInts_any (a := [0, 1]) (b := [0, 1]) (I8.out.alloc _).rd (ints_lit w8 _ [0, 1] rfl (by decide) 2 rfl) true (by decide)).mono ?_
  rintro e w9 ⟨rfl, k9⟩
  have A9 := Lib.hid ((A8.out.no ((Kp.refl No w8).alloc _)).no k9)
  have J9 := Lib.hid ((J8.out.alloc (.cells #[.int .i64 0, .int .i64 1] 3)).kpNo k9)
  clear k9
  go_wp2_with fail
  refine (sameInts_any (a := [1]) (b := [1]) (J9.out.alloc _).rd (ints_lit w9 _ [1] rfl (by decide) 1 rfl) true (by decide)).mono ?_
  rintro e w10 ⟨rfl, k10⟩
  have A10 := Lib.hid ((A9.out.no ((Kp.refl No w9).alloc _)).no k10)
  clear k10
  go_wp2_with fail
  refine (doneA A10.out).mono ?_
  rintro e w11 ⟨rfl, rfl⟩
  have hd : S3.done = 1 := rfl
  rw [hd]
  clear hd
  go_wp2_with fail
  refine (chargeA A10.out).mono ?_
  rintro e w11 ⟨rfl, rfl⟩
  have hc : S3.charge = 8 := rfl
  rw [hc]
  clear hc
  go_wp2
  go_ret
  exact ⟨rfl, A10.out.kp⟩
end Go.Proofs.Ytbafdfkmakehnaa

namespace Go.Proofs.Ytbafdfkmakehnaa
set_option linter.unusedVariables false
set_option linter.unusedSimpArgs false
open Go.RowKit

/-- v, that came in, reads as l. -/
def RdA {α : Type} (K : Kd α) (w : World) (v : Value) (l : List α) : Prop :=
  ∃ A cap, v = .slice A l.length cap ∧ ∀ i x, l[i]? = some x → ∃ g o, A = some ⟨g, o, none⟩ ∧ ∀ j u, (K.enc x)[j]? = some u → w.cell? ⟨g, o + i * K.sz + j, none⟩ = some u

theorem Rd.a {α : Type} {K : Kd α} {w : World} {v : Value} {l : List α} (h : Rd K w v l) : RdA K w v l := by
  have h' := h
  rcases h with ⟨⟨A, c, rfl⟩, rfl⟩ | ⟨g, o, cap, rfl, _⟩
  · exact ⟨A, c, rfl, by simp⟩
  · exact ⟨_, cap, rfl, fun i x hx => ⟨g, o, rfl, fun j u hu => h'.at rfl hx hu⟩⟩
theorem RdA.kpNo {α : Type} {K : Kd α} {w w' : World} {v : Value} {l : List α} (h : RdA K w v l) (hk : Kp No w w') : RdA K w' v l :=
  let ⟨A, cap, hv, hc⟩ := h
  ⟨A, cap, hv, fun i x hx => let ⟨g, o, hA, hu⟩ := hc i x hx; ⟨g, o, hA, fun j u hj => hk.cellS (hu j u hj) (no_no _)⟩⟩
theorem RdA.shape {α : Type} {K : Kd α} {w : World} {v : Value} {l : List α} (h : RdA K w v l) : ∃ A cap, v = .slice A l.length cap := let ⟨A, cap, hv, _⟩ := h; ⟨A, cap, hv⟩
theorem RdA.take {α : Type} {K : Kd α} {w : World} {A : Option Addr} {n cap : Nat} {l : List α} (h : RdA K w (.slice A n cap) l) (m : Nat) : RdA K w (.slice A (min m n) cap) (l.take m) := by
  obtain ⟨A', cap', hv, hc⟩ := h
  simp only [Value.slice.injEq] at hv
  obtain ⟨rfl, rfl, rfl⟩ := hv
  refine ⟨A, cap, by simp, fun i x hx => ?_⟩
  rw [List.getElem?_take] at hx
  split at hx
  · exact hc i x hx
  · cases hx
theorem RdA.at {α : Type} {K : Kd α} {w : World} {A : Option Addr} {n cap : Nat} {l : List α} (h : RdA K w (.slice A n cap) l) {i : Nat} {x : α} (hx : l[i]? = some x) :
    ∃ g o, A = some ⟨g, o, none⟩ ∧ ∀ j u, (K.enc x)[j]? = some u → w.cell? ⟨g, o + i * K.sz + j, none⟩ = some u := by
  obtain ⟨A', cap', hv, hc⟩ := h
  simp only [Value.slice.injEq] at hv
  obtain ⟨rfl, rfl, rfl⟩ := hv
  exact hc i x hx

/-- 's[:hi]' of whatever came in. -/
theorem run_slice_hiA {α : Type} {K : Kd α} {P : Program} {t e : TypeId} {bytes : Nat} (E : ElT P t e K bytes) (A : Option Addr) (n cap hi : Nat) (h : hi ≤ cap) (x : Int) (hx : x = hi) (w : World) :
    (Instr.slice t (.slice A n cap) none (some (.int .i64 x)) none).run P w = .ok (.slice A hi cap) w := by
  subst hx
  obtain ⟨ht, i, z, hi', hz, hsize, hby, hzs⟩ := E
  have hA : (if cap = 0 then A else A.map (·.add (0 * i.size))) = A := by
    split
    · rfl
    · cases A <;> simp [Addr.add]
  simp only [Nat.zero_mul] at hA
  simp [Instr.slice, Instr.sliceBounds, Instr.sliceBound, run_underlying ht, sizeOf, typeInfo, hi', asIntOf, h, hA]

theorem list_of {α : Type} (Q : Nat → α → Prop) : ∀ n, (∀ i, i < n → ∃ x, Q i x) → ∃ l : List α, l.length = n ∧ ∀ i x, l[i]? = some x → Q i x
  | 0, _ => ⟨[], rfl, by simp⟩
  | n + 1, h => by
    obtain ⟨l, hl, hq⟩ := list_of Q n fun i hi => h i (by omega)
    obtain ⟨x, hx⟩ := h n (by omega)
    refine ⟨l ++ [x], by simp [hl], fun i y hy => ?_⟩
    rw [List.getElem?_append] at hy
    split at hy
    · exact hq i y hy
    · rename_i hi
      have : i = l.length := by
        have := (List.getElem?_eq_some_iff.1 hy).1
        simp at this; omega
      subst this
      simp at hy
      subst hy
      rw [hl]; exact hx

theorem open_rows {α : Type} {K : Kd α} {H : Type} {enc : TypeId × Value → H} {P : Program} {w : World} {base : Nat} {spare : Nat → Bool} {held : Bool} {t e : TypeId} {fuel : Nat} {v : Value} {x : DataW H × List MemPlace} (Good : α → Prop)
    (ht : P.underlying t = some (.slice e)) (hC : P.cellsOf e = K.sz) (dec : ∀ n cs' y, DataW.trod enc P w base spare held n e cs' = some y → ∃ x : α, cs' = K.enc x ∧ Good x)
    (h : DataW.trod enc P w base spare held fuel t [v] = some x) : ∃ l : List α, RdA K w v l ∧ (∀ x ∈ l, Good x) ∧ ∃ A cap, v = .slice A l.length cap ∧ l.length ≤ cap ∧ cap ≤ maxLen := by
  rcases Go.Deep.open_slice ht h with ⟨h0, _⟩ | ⟨a, len, cap, m, n, D, Pl, hcs, hb, hl, hm, hmm, hx, hi⟩
  · simp at h0
    exact ⟨[], ⟨none, 0, h0, by simp⟩, by simp, none, 0, h0, by simp, by simp⟩
  · simp at hcs
    have hml : len ≤ m := by rw [hmm]; split <;> omega
    have hsp : 0 < len → a = ⟨a.block, a.off, none⟩ := by
      intro h0
      obtain ⟨cs', hc, ht'⟩ := hi 0 (by omega)
      obtain ⟨y, rfl, _⟩ := dec n cs' _ ht'
      obtain ⟨_, hcl, hat⟩ := World.cells?_some hc
      have h1 := hat 0 (by rw [hC]; exact K.pos)
      rw [List.getElem?_eq_getElem (by rw [K.len y]; exact K.pos), Nat.zero_mul] at h1
      have := World.cell?_spot h1
      simp only [Addr.add, if_true] at this
      obtain ⟨b, o, sp⟩ := a
      simp only at this
      rw [this]
    obtain ⟨l, hll, hq⟩ := list_of (fun i (x : α) => Good x ∧ ∃ g o, some a = some (⟨g, o, none⟩ : Addr) ∧ ∀ j u, (K.enc x)[j]? = some u → w.cell? ⟨g, o + i * K.sz + j, none⟩ = some u) len fun i hil => by
      obtain ⟨cs', hc, ht'⟩ := hi i (by omega)
      obtain ⟨y, rfl, hg⟩ := dec n cs' _ ht'
      obtain ⟨_, hcl, hat⟩ := World.cells?_some hc
      rw [hC] at hat
      have ha := hsp (by omega)
      refine ⟨y, hg, a.block, a.off, congrArg some ha, fun j u hj => ?_⟩
      have hjl : j < K.sz := by rw [← K.len y]; exact (List.getElem?_eq_some_iff.1 hj).1
      have := hat j hjl
      rw [ha] at this
      simp only [Addr.add_lit] at this
      rw [this, hj]
    subst hll
    exact ⟨l, ⟨some a, cap, hcs, fun i x hx => (hq i x hx).2⟩, fun x hx => by obtain ⟨i, hil, rfl⟩ := List.getElem_of_mem hx; exact (hq i _ (List.getElem?_eq_getElem hil)).1, some a, cap, hcs, hl, hm⟩
end Go.Proofs.Ytbafdfkmakehnaa
