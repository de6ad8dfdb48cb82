/- link.Take: the walk. -/
import Derived.Test.YtnejjjoedmefkaaTakS
namespace Go.Proofs.Ytnejjjoedmefkaa
set_option linter.unusedVariables false
set_option linter.unusedSimpArgs false
open Go.RowKit

/-- The loop's state. -/
def TkI (w : World) (b p : Nat) (V : Value) (x : List Nat) (h : Bool) (N : Int) (k : Nat) (wr : World) : Prop :=
  ∃ data D n f, TkP w b h N data D wr ∧ AtR wr p V x n f wr ∧ data.length = k ∧ TkD (unpackB x) data n f ∧ (h = true → data = []) ∧ ∀ y ∈ data, y < 256

theorem takeR_none {f : List Nat} {w w' : World} (h : takeOk f = false) (hk : Kp No w w') : TakeR f w (.returned (.tuple #[.agg #[.bool false, .int .u64 0, .slice none 0 0], .int .i64 140])) w' := by
  have e1 : tkH f = false := by unfold tkH; rw [h]; rfl
  have e2 : tkN f = 0 := by unfold tkN; rw [h]; rfl
  have e3 : tkD f = [] := by unfold tkD; rw [h]; rfl
  have e4 : tkE f = 140 := by unfold tkE; rw [h]; rfl
  refine ⟨.slice none 0 0, by rw [e1, e2, e4]; rfl, ?_⟩
  rw [e3]; exact (NewS.nil _ _ _).kpNo hk

set_option maxRecDepth 100000 in
theorem take_no {w : World} {v : Value} {f : List Nat} (hv : Rd BK w v f) (hl : f.length ≤ 1000000) (hx : ∀ x ∈ f, x < 256) (hF : isF f = false) : Calls Try.prog 13 #[v] w (TakeR f w) := by
  obtain ⟨A, cap, rfl⟩ := hv.shape
  have H := Lib.hid hv; have HX := Lib.hid hx; have HF := Lib.hid hF
  have HR := Lib.hid (fun w' => takeR_none (f := f) (w := w) (w' := w') (by unfold takeOk; rw [hF]; rfl))
  clear hv hx hF
  go_enter Try.func13, Try.ntmps13
  go_wp2_with fail
  refine (open_any (H.out.alloc _) hl HX.out).mono ?_
  rintro e w1 ⟨v1, rfl, h1⟩
  rw [HF.out]
  obtain ⟨A1, c1, rfl⟩ := h1.own.rd.shape
  have K1 := Lib.hid (((Kp.refl No w).alloc _).trans h1.kp)
  have B1 := h1.kp.blk (blk_new w _) (no_no _)
  have b0 : w1.cell? ⟨w.heap.size, 0, none⟩ = some (.bool false) := (blk_cell B1 0).trans rfl
  have b1 : w1.cell? ⟨w.heap.size, 1, none⟩ = some (.int .u64 0) := (blk_cell B1 1).trans rfl
  have b2 : w1.cell? ⟨w.heap.size, 2, none⟩ = some (.slice none 0 0) := (blk_cell B1 2).trans rfl
  have f0 := blk_free B1 0; have f1 := blk_free B1 1; have f2 := blk_free B1 2
  clear h1 B1
  go_wp2
  exact bodyPost_ret (v := .tuple #[.agg #[.bool false, .int .u64 0, .slice none 0 0], .int .i64 140]) (by simp [results, Try.results13, go_sem, b0, b1, b2]) rfl (HR.out _ (((K1.out.setCell (fun h => absurd h (Nat.lt_irrefl _)) _).setCell (fun h => absurd h (Nat.lt_irrefl _)) _).setCell (fun h => absurd h (Nat.lt_irrefl _)) _))

theorem TkP.end3 {w wr : World} {b : Nat} {h : Bool} {N : Int} {data : List Nat} {D : Value} (t : TkP w b h N data D wr) (a0 a1 a2 : Value) :
    NewS BK 5 w (((wr.setCell ⟨w.heap.size, 0, none⟩ a0).setCell ⟨w.heap.size, 1, none⟩ a1).setCell ⟨w.heap.size, 2, none⟩ a2) D data := by
  have hk : Kp (fun k => k = w.heap.size) wr (((wr.setCell ⟨w.heap.size, 0, none⟩ a0).setCell ⟨w.heap.size, 1, none⟩ a1).setCell ⟨w.heap.size, 2, none⟩ a2) :=
    ((Kp.one (p := w.heap.size) 0 a0).trans (Kp.one (p := w.heap.size) 1 a1)).trans (Kp.one (p := w.heap.size) 2 a2)
  have hb := t.bb
  exact ⟨t.own.kp hk fun g hg e => by have e : g = w.heap.size := e; have := t.dn g hg; omega, fun g hg => by have := t.dn g hg; omega, t.kp.newer hk (Nat.le_refl _)⟩
theorem Own.alloc_ {w : World} {v : Value} {l : List Nat} {o : Obj} (h : Own BK 5 w v l) : Own BK 5 (w.alloc o) v l := h.alloc o
theorem takeR_some {f : List Nat} {w w' : World} {v' : Value} (h : takeOk f = true) (hn : NewS BK 5 w w' v' (tD (unpackB (midP f)))) : TakeR f w (.returned (.tuple #[.agg #[.bool (tH (unpackB (midP f))), .int .u64 (tC (unpackB (midP f)) : Int), v'], .int .i64 0])) w' := by
  have e1 : tkH f = tH (unpackB (midP f)) := by unfold tkH; rw [h]; rfl
  have e2 : tkN f = tC (unpackB (midP f)) := by unfold tkN; rw [h]; rfl
  have e3 : tkD f = tD (unpackB (midP f)) := by unfold tkD; rw [h]; rfl
  have e4 : tkE f = 0 := by unfold tkE; rw [h]; rfl
  exact ⟨v', by rw [e1, e2, e4], by rw [e3]; exact hn⟩

set_option maxHeartbeats 1000000 in
set_option maxRecDepth 100000 in
theorem take_yes {w : World} {v : Value} {f : List Nat} (hv : Rd BK w v f) (hl : f.length ≤ 1000000) (hx : ∀ x ∈ f, x < 256) (hF : isF f = true) : Calls Try.prog 13 #[v] w (TakeR f w) := by
  obtain ⟨A, cap, rfl⟩ := hv.shape
  obtain ⟨x, hxe⟩ : ∃ x, x = midP f := ⟨_, rfl⟩
  have ho : openL f = x := by unfold openL; rw [if_pos hF, hxe]
  have hxl : x.length ≤ 1000000 := by rw [hxe]; unfold midP; rw [List.length_take, List.length_drop]; omega
  have hxx : ∀ y ∈ x, y < 256 := fun y hy => hx y (by rw [hxe] at hy; exact List.mem_of_mem_drop (List.mem_of_mem_take hy))
  obtain ⟨L, hL⟩ : ∃ L, L = unpackB x := ⟨_, rfl⟩
  have hLl : L.length = 8 * x.length := by rw [hL, unpackB_len2]
  obtain ⟨hci, hcl⟩ := tC_int L
  obtain ⟨hb, hhb⟩ : ∃ hb, hb = tH L := ⟨_, rfl⟩
  obtain ⟨r, hr⟩ : ∃ r, r = rgetV L 0 0 1 := ⟨_, rfl⟩
  have hrb : ((r : Int) == 1) = hb := by
    rw [hhb]; unfold tH; rw [← hr]
    by_cases h : r = 1
    · simp [h]
    · rw [decide_eq_false h, beq_eq_false_iff_ne]; omega
  obtain ⟨N, hN⟩ : ∃ N, N = tC L := ⟨_, rfl⟩
  rw [← hN] at hci hcl
  have hNI : ((N : Int) == 18446744073709551615) = false := by rw [beq_eq_false_iff_ne]; omega
  have H := Lib.hid hv; have HX := Lib.hid hx; have HF := Lib.hid hF; have HO := Lib.hid ho; have HXX := Lib.hid hxx; have HL := Lib.hid hL; have HLL := Lib.hid hLl; have HCI := Lib.hid hci; have HHB := Lib.hid hhb; have HR := Lib.hid hr; have HNE := Lib.hid hN
  have HNO := Lib.hid (fun w' (h : tOk L = false) => takeR_none (f := f) (w := w) (w' := w') (by unfold takeOk; rw [← hxe, ← hL, h, hF]; rfl))
  have HYES := Lib.hid (fun w' v' (h : tOk L = true) (hn : NewS BK 5 w w' v' (tD L)) => takeR_some (f := f) (w := w) (w' := w') (v' := v') (by unfold takeOk; rw [← hxe, ← hL, h, hF]; rfl) (by rw [← hxe, ← hL]; exact hn))
  rw [← hxe, ← hL, ← hN, ← hhb] at HYES
  have HT1 := Lib.hid (tN1_le L); have HT2 := Lib.hid (tN_le L)
  clear hv hx hF ho hxe hxx hL hLl hci hcl hhb hr hN
  go_enter Try.func13, Try.ntmps13
  go_wp2_with fail
  refine (open_any (H.out.alloc _) hl HX.out).mono ?_
  rintro e w1 ⟨v1, rfl, h1⟩
  rw [HF.out]
  rw [HO.out] at h1
  obtain ⟨A1, c1, rfl⟩ := h1.own.rd.shape
  have H1 := Lib.hid h1
  have RS := Lib.hid (h1.kp.blk (blk_new w _) (no_no _))
  have K1 := Lib.hid (((Kp.refl No w).alloc _).trans h1.kp)
  have S1 := Lib.hid (show w.heap.size < w1.heap.size by have := h1.kp.size; simp at this; omega)
  clear h1
  go_wp2_with fail
  refine (newR_any H1.out.own.rd hxl).mono ?_
  rintro e w2 ⟨p, V, rfl, a2, b2, b3, b4, b5⟩
  have A2 := Lib.hid a2; have K2 := Lib.hid (K1.out.trans b2)
  have P2 := Lib.hid (show w.heap.size < p by have := S1.out; omega)
  have PL := Lib.hid b4
  have VL := Lib.hid b5
  have RS2 := Lib.hid (b2.blk RS.out (no_no _))
  clear a2 b2 b3 b4 b5
  go_wp2_with fail
  refine (get_any A2.out hxl HXX.out (Nat.zero_le _) 1 (by decide) 1 rfl).mono ?_
  rintro e w3 ⟨rfl, a3⟩
  rw [← HL.out, ← HR.out]
  rw [← HL.out] at a3
  have hs3 := a3.kp.size
  have S3 := Lib.hid hs3
  have RS3 := Lib.hid (a3.kp.blk RS2.out (fun e => by have e : w.heap.size = p := e; have := P2.out; omega))
  have K3 := Lib.hid (K2.out.newer a3.kp (Nat.le_of_lt P2.out))
  have A3 := Lib.hid (show AtR w2 p V x (tN1 L) (tF1 L) w3 from a3)
  clear a3 hs3
  have B4 := Lib.hid (blk_new w3 (.cells #[.bool hb, .int .u64 0, .slice none 0 0] 25))
  have PW := Lib.hid (show p < w3.heap.size from Nat.lt_of_lt_of_le PL.out S3.out)
  go_wp2_with fail
  refine (rcount_any (A3.out.kpNo ((Kp.refl No w3).alloc _)).here hxl HXX.out (by have := HT1.out; have := HLL.out; omega)).mono ?_
  rintro e w5 ⟨rfl, a5⟩
  rw [← HL.out, HCI.out]
  rw [← HL.out] at a5
  have t5 : TkP w w3.heap.size hb 0 [] (.slice none 0 0) w5 :=
    ⟨a5.kp.blk B4.out (fun e => by have e : w3.heap.size = p := e; have := PW.out; omega), Own.nil _ _ _, a5.kp.blk (blk_alloc RS3.out _) (fun e => by have e : w.heap.size = p := e; have := P2.out; omega),
      (K3.out.alloc _).newer a5.kp (Nat.le_of_lt P2.out), Nat.lt_trans P2.out PW.out, fun g hg => by simp [Value.ownBlock] at hg⟩
  have c51 : w5.cell? ⟨w3.heap.size, 1, none⟩ = some (.int .u64 0) := (blk_cell t5.pkt 1).trans rfl
  have f51 := blk_free t5.pkt 1
  have T6 := Lib.hid (t5.setN (N : Int))
  have VB : Hid (∀ g, V.ownBlock = some g → g < w3.heap.size) := Lib.hid fun g hg => Nat.lt_of_lt_of_le (VL.out g hg).2 S3.out
  have A6 := Lib.hid ((a5.far (Kp.one (w := w5) (p := w3.heap.size) 1 (.int .u64 (N : Int))) (fun e => by have e : p = w3.heap.size := e; have := PW.out; omega) fun g hg e => by have e : g = w3.heap.size := e; have := VB.out g hg; omega).here)
  clear a5 t5
  go_wp2
  go_loopg [25] 201 (fun g _ wr => ∃ k, g = 201 - k ∧ k ≤ 201 ∧ TkI w w3.heap.size p V x hb N k wr)
  case atStart => exact ⟨0, rfl, by omega, [], _, _, _, T6.out, A6.out, rfl, by rw [← HL.out]; exact TkD.start L HT2.out, fun _ => rfl, fun y hy => by simp at hy⟩
  case round =>
    obtain ⟨k, hg, hk, data, D, n, f', htp, har, hdl, htd, hhd, hdx⟩ := hrel
    rw [← HL.out] at htd
    obtain ⟨AD, cD, rfl⟩ := htp.own.rd.shape
    have q0 : wr.cell? ⟨w3.heap.size, 0, none⟩ = some (.bool hb) := (blk_cell htp.pkt 0).trans rfl
    have q1 : wr.cell? ⟨w3.heap.size, 1, none⟩ = some (.int .u64 (N : Int)) := (blk_cell htp.pkt 1).trans rfl
    have q2 : wr.cell? ⟨w3.heap.size, 2, none⟩ = some (.slice AD data.length cD) := (blk_cell htp.pkt 2).trans rfl
    have hn8 : n ≤ 8 * x.length := by rw [← HLL.out]; exact htd.le
    have T := Lib.hid htp; have R := Lib.hid har; have TD := Lib.hid htd; have DX := Lib.hid hdx; have HG := Lib.hid hg; have HDL := Lib.hid hdl; have HHD := Lib.hid hhd; have HN8 := Lib.hid hn8
    by_cases hgo : hb = false ∧ n + 8 ≤ L.length ∧ data.length ≤ 200
    · obtain ⟨g1, g2, g3⟩ := hgo
      subst g1
      have g2I : (8 : Int) ≤ 8 * (x.length : Int) - (n : Int) := by have := HLL.out; omega
      have g3I : (data.length : Int) ≤ 200 := by omega
      obtain ⟨htd2, hy256⟩ := htd.step g2
      obtain ⟨y, hy⟩ : ∃ y, y = rgetV L n f' 8 := ⟨_, rfl⟩
      rw [← hy] at htd2 hy256
      have HY := Lib.hid (show rgetV (unpackB x) n f' 8 = y by rw [hy, HL.out])
      have TD2 := Lib.hid htd2
      have hyw : IntKind.u8.wrap (y : Int) = (y : Int) := IntWalk.u8_in _ (by omega)
      have hk2 : k ≤ 200 := by omega
      have HY2 := Lib.hid hy256
      have b1 : data.length + 1 ≤ maxLen := by unfold maxLen; omega
      have b2 : (data.length + 1) * 1 ≤ 140737488355328 := by omega
      clear htp har htd hdx hg hdl hhd htd2 hy hy256 g2 g3 hn8
      go_wp2_with fail
      refine (left_any R.out hxl HN8.out).mono ?_
      rintro e w6 ⟨rfl, k6⟩
      have T6' := Lib.hid (T.out.no k6); have R6 := Lib.hid ((R.out.kpNo k6).here)
      have q62 : w6.cell? ⟨w3.heap.size, 2, none⟩ = some (.slice AD data.length cD) := k6.cellS q2 (no_no _)
      clear k6
      go_wp2
      go_region_law (first
        | (refine stp_append elB rfl (.tmp 40) (.tmp 44) rfl rfl rfl (l := data) (m := [y]) T7.out.own.alloc_ (Rd.litAt BK 5 _ _ [y] rfl (by unfold maxLen; simp) _ _ rfl rfl) b1 b2 ?_; intro v8 w8 m1 m2 m3; obtain ⟨A8, c8, rfl⟩ := m1.rd.shape; have p8 := m2.blk (T7.out.no ((Kp.refl No _).alloc _)).pkt (fun e => by have := T7.out.dn _ e; omega); have c82 := (blk_cell p8 2).trans rfl; have f82 := blk_free p8 2; have T8 := Lib.hid ((T7.out.no ((Kp.refl No _).alloc _)).app m1 m2 (fun g hg => (m3 g hg).imp id id)); have R8 := Lib.hid ((T7.out.no ((Kp.refl No _).alloc _)).rdr (D' := .slice A8 (data ++ [y]).length c8) m2 (R7.out.kpNo ((Kp.refl No _).alloc _)) PW.out VB.out); clear m1 m2 m3 p8)
        | (go_simp; go_at_call 46; refine (get_any (w := w6.drew) (R6.out.kpNo (Kp.refl No _).drew) hxl HXX.out HN8.out 8 (by decide) 8 rfl).mono ?_; rintro e w7 ⟨rfl, a7⟩; rw [HY.out]; have T7 := Lib.hid (T6'.out.far a7.kp (fun k e => by have e : k = p := e; subst e; exact ⟨P2.out, PW.out⟩)); have q72 : w7.cell? ⟨w3.heap.size, 2, none⟩ = some (.slice AD data.length cD) := (blk_cell T7.out.pkt 2).trans rfl; have q73 : ∀ o, (w7.alloc o).cell? ⟨w3.heap.size, 2, none⟩ = some (.slice AD data.length cD) := (fun o => (blk_cell (T7.out.no ((Kp.refl No _).alloc o)).pkt 2).trans rfl); have R7 := Lib.hid a7; clear a7))
      all_goals
        have ta := T8.out
        have ra := R8.out
        rw [List.length_append, List.length_singleton] at ta ra
        have TA := Lib.hid ta; have RA := Lib.hid ra
        clear ta ra
        go_wp2
        go_roundg (201 - (k + 1))
        case measure => have := HG.out; omega
        case rel => exact ⟨k + 1, rfl, by omega, data ++ [y], _, _, _, TA.out, by have q := RA.out; rw [← HL.out] at q; exact q, by rw [List.length_append, List.length_singleton, HDL.out], by rw [← HL.out]; exact TD2.out, fun e => by simp at e, fun z hz => by rcases List.mem_append.1 hz with hz | hz; exact DX.out z hz; rw [List.mem_singleton.1 hz]; exact HY2.out⟩
    · have hx3 : hb = true ∨ (hb = false ∧ L.length < n + 8) ∨ (hb = false ∧ n + 8 ≤ L.length ∧ 200 < data.length) := by
        cases hb
        · rcases Nat.lt_or_ge L.length (n + 8) with h | h
          · exact .inr (.inl ⟨rfl, h⟩)
          · rcases Nat.lt_or_ge 200 data.length with h' | h'
            · exact .inr (.inr ⟨rfl, h, h'⟩)
            · exact absurd ⟨rfl, h, h'⟩ hgo
        · exact .inl rfl
      have hfin := htd.fin (by omega) (by
        rw [← HHB.out]
        rcases hx3 with h | ⟨h, h'⟩ | ⟨h, h', h''⟩
        · exact .inl ⟨h, hhd h⟩
        · exact .inr ⟨h, .inl (by omega)⟩
        · exact .inr ⟨h, .inr h''⟩)
      obtain ⟨s, hs⟩ : ∃ s, s = rendV L n f' := ⟨_, rfl⟩
      rw [← hs] at hfin
      have HS := Lib.hid (show rendV (unpackB x) n f' = s by rw [hs, HL.out])
      have hres : (s != 0) = true ∨ ((s != 0) = false ∧ 200 < data.length) ∨ ((s != 0) = false ∧ data.length ≤ 200) := by
        by_cases h : s = 0
        · rcases Nat.lt_or_ge 200 data.length with h' | h'
          · exact .inr (.inl ⟨by simp [h], h'⟩)
          · exact .inr (.inr ⟨by simp [h], h'⟩)
        · exact .inl (by simpa using h)
      have HYN := Lib.hid (fun (h1 : (s != 0) = false) (h2 : data.length ≤ 200) => hfin.1 ⟨by simpa using h1, h2⟩)
      have HNN := Lib.hid (fun (h1 : ¬ ((s != 0) = false ∧ data.length ≤ 200)) => hfin.2 fun h => h1 ⟨by simpa using h.1, h.2⟩)
      have hlf := HLL.out
      clear htp har htd hdx hg hdl hhd hs hfin hgo hn8
      rcases hx3 with h1 | ⟨h1, h2⟩ | ⟨h1, h2, h3⟩
      · rcases hres with e1 | ⟨e1, e2⟩ | ⟨e1, e2⟩
        · subst h1
          clear hlf
          have HQ := Lib.hid (HNN.out fun h => by rw [e1] at h; exact absurd h.1 (by decide))
          have T6' := Lib.hid T.out; have R6 := Lib.hid R.out.here
          go_wp2_with fail
          refine (end_any R6.out hxl HXX.out HN8.out).mono ?_
          rintro e w7 ⟨rfl, k7⟩
          rw [HS.out]
          have t7 := T6'.out.no k7
          have p0 : w7.cell? ⟨w3.heap.size, 0, none⟩ = some (.bool _) := (blk_cell t7.pkt 0).trans rfl
          have p1 : w7.cell? ⟨w3.heap.size, 1, none⟩ = some (.int .u64 (N : Int)) := (blk_cell t7.pkt 1).trans rfl
          have p2 : w7.cell? ⟨w3.heap.size, 2, none⟩ = some (.slice AD data.length cD) := (blk_cell t7.pkt 2).trans rfl
          have r0 : w7.cell? ⟨w.heap.size, 0, none⟩ = some (.bool false) := (blk_cell t7.res 0).trans rfl
          have r1 : w7.cell? ⟨w.heap.size, 1, none⟩ = some (.int .u64 0) := (blk_cell t7.res 1).trans rfl
          have r2 : w7.cell? ⟨w.heap.size, 2, none⟩ = some (.slice none 0 0) := (blk_cell t7.res 2).trans rfl
          have s0 := blk_free t7.res 0; have s1 := blk_free t7.res 1; have s2 := blk_free t7.res 2
          have E3 := Lib.hid t7.end3
          clear k7 t7
          go_wp2
          exact bodyPost_ret (v := .tuple #[.agg #[.bool false, .int .u64 0, .slice none 0 0], .int .i64 140]) (by simp [results, Try.results13, go_sem, r0, r1, r2]) rfl (HNO.out _ HQ.out (E3.out _ _ _).kp)
        · subst h1
          clear hlf
          have HQ := Lib.hid (HNN.out fun h => by have := h.2; omega)
          have e2I : (200 : Int) < (data.length : Int) := by omega
          clear e2
          have T6' := Lib.hid T.out; have R6 := Lib.hid R.out.here
          go_wp2_with fail
          refine (end_any R6.out hxl HXX.out HN8.out).mono ?_
          rintro e w7 ⟨rfl, k7⟩
          rw [HS.out]
          have t7 := T6'.out.no k7
          have p0 : w7.cell? ⟨w3.heap.size, 0, none⟩ = some (.bool _) := (blk_cell t7.pkt 0).trans rfl
          have p1 : w7.cell? ⟨w3.heap.size, 1, none⟩ = some (.int .u64 (N : Int)) := (blk_cell t7.pkt 1).trans rfl
          have p2 : w7.cell? ⟨w3.heap.size, 2, none⟩ = some (.slice AD data.length cD) := (blk_cell t7.pkt 2).trans rfl
          have r0 : w7.cell? ⟨w.heap.size, 0, none⟩ = some (.bool false) := (blk_cell t7.res 0).trans rfl
          have r1 : w7.cell? ⟨w.heap.size, 1, none⟩ = some (.int .u64 0) := (blk_cell t7.res 1).trans rfl
          have r2 : w7.cell? ⟨w.heap.size, 2, none⟩ = some (.slice none 0 0) := (blk_cell t7.res 2).trans rfl
          have s0 := blk_free t7.res 0; have s1 := blk_free t7.res 1; have s2 := blk_free t7.res 2
          have E3 := Lib.hid t7.end3
          clear k7 t7
          go_wp2
          exact bodyPost_ret (v := .tuple #[.agg #[.bool false, .int .u64 0, .slice none 0 0], .int .i64 140]) (by simp [results, Try.results13, go_sem, r0, r1, r2]) rfl (HNO.out _ HQ.out (E3.out _ _ _).kp)
        · subst h1
          clear hlf
          have HQ := Lib.hid (HYN.out e1 e2)
          have e2I : ¬ (200 : Int) < (data.length : Int) := by omega
          clear e2
          have T6' := Lib.hid T.out; have R6 := Lib.hid R.out.here
          go_wp2_with fail
          refine (end_any R6.out hxl HXX.out HN8.out).mono ?_
          rintro e w7 ⟨rfl, k7⟩
          rw [HS.out]
          have t7 := T6'.out.no k7
          have p0 : w7.cell? ⟨w3.heap.size, 0, none⟩ = some (.bool _) := (blk_cell t7.pkt 0).trans rfl
          have p1 : w7.cell? ⟨w3.heap.size, 1, none⟩ = some (.int .u64 (N : Int)) := (blk_cell t7.pkt 1).trans rfl
          have p2 : w7.cell? ⟨w3.heap.size, 2, none⟩ = some (.slice AD data.length cD) := (blk_cell t7.pkt 2).trans rfl
          have r0 : w7.cell? ⟨w.heap.size, 0, none⟩ = some (.bool false) := (blk_cell t7.res 0).trans rfl
          have r1 : w7.cell? ⟨w.heap.size, 1, none⟩ = some (.int .u64 0) := (blk_cell t7.res 1).trans rfl
          have r2 : w7.cell? ⟨w.heap.size, 2, none⟩ = some (.slice none 0 0) := (blk_cell t7.res 2).trans rfl
          have s0 := blk_free t7.res 0; have s1 := blk_free t7.res 1; have s2 := blk_free t7.res 2
          have E3 := Lib.hid t7.end3
          clear k7 t7
          go_wp2
          exact bodyPost_ret (v := .tuple #[.agg #[.bool _, .int .u64 (N : Int), .slice AD data.length cD], .int .i64 0]) (by simp [results, Try.results13, go_sem, r0, r1, r2]) rfl (HYES.out _ _ HQ.out.1 (by rw [← HQ.out.2]; exact E3.out _ _ _))
      · rcases hres with e1 | ⟨e1, e2⟩ | ⟨e1, e2⟩
        · subst h1
          have g2I : ¬ (8 : Int) ≤ 8 * (x.length : Int) - (n : Int) := by omega
          clear hlf h2
          have HQ := Lib.hid (HNN.out fun h => by rw [e1] at h; exact absurd h.1 (by decide))
          go_wp2_with fail
          refine (left_any R.out hxl HN8.out).mono ?_
          rintro e w6 ⟨rfl, k6⟩
          have T6' := Lib.hid (T.out.no k6); have R6 := Lib.hid ((R.out.kpNo k6).here)
          have q62 : w6.cell? ⟨w3.heap.size, 2, none⟩ = some (.slice AD data.length cD) := k6.cellS q2 (no_no _)
          clear k6
          go_wp2_with fail
          refine (end_any R6.out hxl HXX.out HN8.out).mono ?_
          rintro e w7 ⟨rfl, k7⟩
          rw [HS.out]
          have t7 := T6'.out.no k7
          have p0 : w7.cell? ⟨w3.heap.size, 0, none⟩ = some (.bool _) := (blk_cell t7.pkt 0).trans rfl
          have p1 : w7.cell? ⟨w3.heap.size, 1, none⟩ = some (.int .u64 (N : Int)) := (blk_cell t7.pkt 1).trans rfl
          have p2 : w7.cell? ⟨w3.heap.size, 2, none⟩ = some (.slice AD data.length cD) := (blk_cell t7.pkt 2).trans rfl
          have r0 : w7.cell? ⟨w.heap.size, 0, none⟩ = some (.bool false) := (blk_cell t7.res 0).trans rfl
          have r1 : w7.cell? ⟨w.heap.size, 1, none⟩ = some (.int .u64 0) := (blk_cell t7.res 1).trans rfl
          have r2 : w7.cell? ⟨w.heap.size, 2, none⟩ = some (.slice none 0 0) := (blk_cell t7.res 2).trans rfl
          have s0 := blk_free t7.res 0; have s1 := blk_free t7.res 1; have s2 := blk_free t7.res 2
          have E3 := Lib.hid t7.end3
          clear k7 t7
          go_wp2
          exact bodyPost_ret (v := .tuple #[.agg #[.bool false, .int .u64 0, .slice none 0 0], .int .i64 140]) (by simp [results, Try.results13, go_sem, r0, r1, r2]) rfl (HNO.out _ HQ.out (E3.out _ _ _).kp)
        · subst h1
          have g2I : ¬ (8 : Int) ≤ 8 * (x.length : Int) - (n : Int) := by omega
          clear hlf h2
          have HQ := Lib.hid (HNN.out fun h => by have := h.2; omega)
          have e2I : (200 : Int) < (data.length : Int) := by omega
          clear e2
          go_wp2_with fail
          refine (left_any R.out hxl HN8.out).mono ?_
          rintro e w6 ⟨rfl, k6⟩
          have T6' := Lib.hid (T.out.no k6); have R6 := Lib.hid ((R.out.kpNo k6).here)
          have q62 : w6.cell? ⟨w3.heap.size, 2, none⟩ = some (.slice AD data.length cD) := k6.cellS q2 (no_no _)
          clear k6
          go_wp2_with fail
          refine (end_any R6.out hxl HXX.out HN8.out).mono ?_
          rintro e w7 ⟨rfl, k7⟩
          rw [HS.out]
          have t7 := T6'.out.no k7
          have p0 : w7.cell? ⟨w3.heap.size, 0, none⟩ = some (.bool _) := (blk_cell t7.pkt 0).trans rfl
          have p1 : w7.cell? ⟨w3.heap.size, 1, none⟩ = some (.int .u64 (N : Int)) := (blk_cell t7.pkt 1).trans rfl
          have p2 : w7.cell? ⟨w3.heap.size, 2, none⟩ = some (.slice AD data.length cD) := (blk_cell t7.pkt 2).trans rfl
          have r0 : w7.cell? ⟨w.heap.size, 0, none⟩ = some (.bool false) := (blk_cell t7.res 0).trans rfl
          have r1 : w7.cell? ⟨w.heap.size, 1, none⟩ = some (.int .u64 0) := (blk_cell t7.res 1).trans rfl
          have r2 : w7.cell? ⟨w.heap.size, 2, none⟩ = some (.slice none 0 0) := (blk_cell t7.res 2).trans rfl
          have s0 := blk_free t7.res 0; have s1 := blk_free t7.res 1; have s2 := blk_free t7.res 2
          have E3 := Lib.hid t7.end3
          clear k7 t7
          go_wp2
          exact bodyPost_ret (v := .tuple #[.agg #[.bool false, .int .u64 0, .slice none 0 0], .int .i64 140]) (by simp [results, Try.results13, go_sem, r0, r1, r2]) rfl (HNO.out _ HQ.out (E3.out _ _ _).kp)
        · subst h1
          have g2I : ¬ (8 : Int) ≤ 8 * (x.length : Int) - (n : Int) := by omega
          clear hlf h2
          have HQ := Lib.hid (HYN.out e1 e2)
          have e2I : ¬ (200 : Int) < (data.length : Int) := by omega
          clear e2
          go_wp2_with fail
          refine (left_any R.out hxl HN8.out).mono ?_
          rintro e w6 ⟨rfl, k6⟩
          have T6' := Lib.hid (T.out.no k6); have R6 := Lib.hid ((R.out.kpNo k6).here)
          have q62 : w6.cell? ⟨w3.heap.size, 2, none⟩ = some (.slice AD data.length cD) := k6.cellS q2 (no_no _)
          clear k6
          go_wp2_with fail
          refine (end_any R6.out hxl HXX.out HN8.out).mono ?_
          rintro e w7 ⟨rfl, k7⟩
          rw [HS.out]
          have t7 := T6'.out.no k7
          have p0 : w7.cell? ⟨w3.heap.size, 0, none⟩ = some (.bool _) := (blk_cell t7.pkt 0).trans rfl
          have p1 : w7.cell? ⟨w3.heap.size, 1, none⟩ = some (.int .u64 (N : Int)) := (blk_cell t7.pkt 1).trans rfl
          have p2 : w7.cell? ⟨w3.heap.size, 2, none⟩ = some (.slice AD data.length cD) := (blk_cell t7.pkt 2).trans rfl
          have r0 : w7.cell? ⟨w.heap.size, 0, none⟩ = some (.bool false) := (blk_cell t7.res 0).trans rfl
          have r1 : w7.cell? ⟨w.heap.size, 1, none⟩ = some (.int .u64 0) := (blk_cell t7.res 1).trans rfl
          have r2 : w7.cell? ⟨w.heap.size, 2, none⟩ = some (.slice none 0 0) := (blk_cell t7.res 2).trans rfl
          have s0 := blk_free t7.res 0; have s1 := blk_free t7.res 1; have s2 := blk_free t7.res 2
          have E3 := Lib.hid t7.end3
          clear k7 t7
          go_wp2
          exact bodyPost_ret (v := .tuple #[.agg #[.bool _, .int .u64 (N : Int), .slice AD data.length cD], .int .i64 0]) (by simp [results, Try.results13, go_sem, r0, r1, r2]) rfl (HYES.out _ _ HQ.out.1 (by rw [← HQ.out.2]; exact E3.out _ _ _))
      · rcases hres with e1 | ⟨e1, e2⟩ | ⟨e1, e2⟩
        · subst h1
          have g2I : (8 : Int) ≤ 8 * (x.length : Int) - (n : Int) := by omega
          have g3I : ¬ (data.length : Int) ≤ 200 := by omega
          clear hlf h2 h3
          have HQ := Lib.hid (HNN.out fun h => by rw [e1] at h; exact absurd h.1 (by decide))
          go_wp2_with fail
          refine (left_any R.out hxl HN8.out).mono ?_
          rintro e w6 ⟨rfl, k6⟩
          have T6' := Lib.hid (T.out.no k6); have R6 := Lib.hid ((R.out.kpNo k6).here)
          have q62 : w6.cell? ⟨w3.heap.size, 2, none⟩ = some (.slice AD data.length cD) := k6.cellS q2 (no_no _)
          clear k6
          go_wp2_with fail
          refine (end_any R6.out hxl HXX.out HN8.out).mono ?_
          rintro e w7 ⟨rfl, k7⟩
          rw [HS.out]
          have t7 := T6'.out.no k7
          have p0 : w7.cell? ⟨w3.heap.size, 0, none⟩ = some (.bool _) := (blk_cell t7.pkt 0).trans rfl
          have p1 : w7.cell? ⟨w3.heap.size, 1, none⟩ = some (.int .u64 (N : Int)) := (blk_cell t7.pkt 1).trans rfl
          have p2 : w7.cell? ⟨w3.heap.size, 2, none⟩ = some (.slice AD data.length cD) := (blk_cell t7.pkt 2).trans rfl
          have r0 : w7.cell? ⟨w.heap.size, 0, none⟩ = some (.bool false) := (blk_cell t7.res 0).trans rfl
          have r1 : w7.cell? ⟨w.heap.size, 1, none⟩ = some (.int .u64 0) := (blk_cell t7.res 1).trans rfl
          have r2 : w7.cell? ⟨w.heap.size, 2, none⟩ = some (.slice none 0 0) := (blk_cell t7.res 2).trans rfl
          have s0 := blk_free t7.res 0; have s1 := blk_free t7.res 1; have s2 := blk_free t7.res 2
          have E3 := Lib.hid t7.end3
          clear k7 t7
          go_wp2
          exact bodyPost_ret (v := .tuple #[.agg #[.bool false, .int .u64 0, .slice none 0 0], .int .i64 140]) (by simp [results, Try.results13, go_sem, r0, r1, r2]) rfl (HNO.out _ HQ.out (E3.out _ _ _).kp)
        · subst h1
          have g2I : (8 : Int) ≤ 8 * (x.length : Int) - (n : Int) := by omega
          have g3I : ¬ (data.length : Int) ≤ 200 := by omega
          clear hlf h2 h3
          have HQ := Lib.hid (HNN.out fun h => by have := h.2; omega)
          have e2I : (200 : Int) < (data.length : Int) := by omega
          clear e2
          go_wp2_with fail
          refine (left_any R.out hxl HN8.out).mono ?_
          rintro e w6 ⟨rfl, k6⟩
          have T6' := Lib.hid (T.out.no k6); have R6 := Lib.hid ((R.out.kpNo k6).here)
          have q62 : w6.cell? ⟨w3.heap.size, 2, none⟩ = some (.slice AD data.length cD) := k6.cellS q2 (no_no _)
          clear k6
          go_wp2_with fail
          refine (end_any R6.out hxl HXX.out HN8.out).mono ?_
          rintro e w7 ⟨rfl, k7⟩
          rw [HS.out]
          have t7 := T6'.out.no k7
          have p0 : w7.cell? ⟨w3.heap.size, 0, none⟩ = some (.bool _) := (blk_cell t7.pkt 0).trans rfl
          have p1 : w7.cell? ⟨w3.heap.size, 1, none⟩ = some (.int .u64 (N : Int)) := (blk_cell t7.pkt 1).trans rfl
          have p2 : w7.cell? ⟨w3.heap.size, 2, none⟩ = some (.slice AD data.length cD) := (blk_cell t7.pkt 2).trans rfl
          have r0 : w7.cell? ⟨w.heap.size, 0, none⟩ = some (.bool false) := (blk_cell t7.res 0).trans rfl
          have r1 : w7.cell? ⟨w.heap.size, 1, none⟩ = some (.int .u64 0) := (blk_cell t7.res 1).trans rfl
          have r2 : w7.cell? ⟨w.heap.size, 2, none⟩ = some (.slice none 0 0) := (blk_cell t7.res 2).trans rfl
          have s0 := blk_free t7.res 0; have s1 := blk_free t7.res 1; have s2 := blk_free t7.res 2
          have E3 := Lib.hid t7.end3
          clear k7 t7
          go_wp2
          exact bodyPost_ret (v := .tuple #[.agg #[.bool false, .int .u64 0, .slice none 0 0], .int .i64 140]) (by simp [results, Try.results13, go_sem, r0, r1, r2]) rfl (HNO.out _ HQ.out (E3.out _ _ _).kp)
        · omega
end Go.Proofs.Ytnejjjoedmefkaa
