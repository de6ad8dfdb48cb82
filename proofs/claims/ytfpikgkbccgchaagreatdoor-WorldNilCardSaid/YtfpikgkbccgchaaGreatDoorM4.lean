/- link.Take: the walk; carfaxref14.Take: the walk; link.Sender: NewSender, Tell, Packet, Told; link.Sender: Packet, Told, Hear; link.Receiver; What all laws here answer; two facts on the program; Packets that were laid are taken. No condition. -/
import Derived.Test.YtfpikgkbccgchaaGreatDoorM3
import Derived.Test.YtfpikgkbccgchaaGreatDoorM2
import Derived.Test.YtfpikgkbccgchaaGreatDoorM1

namespace Go.Proofs.YtfpikgkbccgchaaGreatDoor
set_option linter.unusedVariables false
set_option linter.unusedSimpArgs false
open Go.RowKit

/-- The loop's state. -/
def TkI (w : World) (b p : Nat) (V : Value) (x : List Nat) (h : Bool) (N : Int) (k : Nat) (wr : World) : Prop :=
  ∃ data D n f, TkP w b h N data D wr ∧ AtR wr p V x n f wr ∧ data.length = k ∧ TkD (unpackB x) data n f ∧ (h = true → data = []) ∧ ∀ y ∈ data, y < 256

theorem takeR_none {f : List Nat} {w w' : World} (h : takeOk f = false) (hk : Kp No w w') : TakeR f w (.returned (.tuple #[.agg #[.bool false, .int .u64 0, .slice none 0 0], .int .i64 140])) w' := by
  have e1 : tkH f = false := by unfold tkH; rw [h]; rfl
  have e2 : tkN f = 0 := by unfold tkN; rw [h]; rfl
  have e3 : tkD f = [] := by unfold tkD; rw [h]; rfl
  have e4 : tkE f = 140 := by unfold tkE; rw [h]; rfl
  refine ⟨.slice none 0 0, by rw [e1, e2, e4]; rfl, ?_⟩
  rw [e3]; exact (NewS.nil _ _ _).kpNo hk

set_option maxRecDepth 100000 in
theorem take_no {w : World} {v : Value} {f : List Nat} (hv : Rd BK w v f) (hl : f.length ≤ 1000000) (hx : ∀ x ∈ f, x < 256) (hF : isF f = false) : Calls Tryz.prog 60 #[v] w (TakeR f w) := by
  obtain ⟨A, cap, rfl⟩ := hv.shape
  have H := Lib.hid hv; have HX := Lib.hid hx; have HF := Lib.hid hF
  have HR := Lib.hid (fun w' => takeR_none (f := f) (w := w) (w' := w') (by unfold takeOk; rw [hF]; rfl))
  clear hv hx hF
  go_enter Tryz.func60, Tryz.ntmps60
  go_wp2_with fail
  refine (open_any (H.out.alloc _) hl HX.out).mono ?_
  rintro e w1 ⟨v1, rfl, h1⟩
  rw [HF.out]
  obtain ⟨A1, c1, rfl⟩ := h1.own.rd.shape
  have K1 := Lib.hid (((Kp.refl No w).alloc _).trans h1.kp)
  have B1 := h1.kp.blk (blk_new w _) (no_no _)
  have b0 : w1.cell? ⟨w.heap.size, 0, none⟩ = some (.bool false) := (blk_cell B1 0).trans rfl
  have b1 : w1.cell? ⟨w.heap.size, 1, none⟩ = some (.int .u64 0) := (blk_cell B1 1).trans rfl
  have b2 : w1.cell? ⟨w.heap.size, 2, none⟩ = some (.slice none 0 0) := (blk_cell B1 2).trans rfl
  have f0 := blk_free B1 0; have f1 := blk_free B1 1; have f2 := blk_free B1 2
  clear h1 B1
  go_wp2
  exact bodyPost_ret (v := .tuple #[.agg #[.bool false, .int .u64 0, .slice none 0 0], .int .i64 140]) (by simp [results, Tryz.results60, go_sem, b0, b1, b2]) rfl (HR.out _ (((K1.out.setCell (fun h => absurd h (Nat.lt_irrefl _)) _).setCell (fun h => absurd h (Nat.lt_irrefl _)) _).setCell (fun h => absurd h (Nat.lt_irrefl _)) _))

theorem TkP.end3 {w wr : World} {b : Nat} {h : Bool} {N : Int} {data : List Nat} {D : Value} (t : TkP w b h N data D wr) (a0 a1 a2 : Value) :
    NewS BK 5 w (((wr.setCell ⟨w.heap.size, 0, none⟩ a0).setCell ⟨w.heap.size, 1, none⟩ a1).setCell ⟨w.heap.size, 2, none⟩ a2) D data := by
  have hk : Kp (fun k => k = w.heap.size) wr (((wr.setCell ⟨w.heap.size, 0, none⟩ a0).setCell ⟨w.heap.size, 1, none⟩ a1).setCell ⟨w.heap.size, 2, none⟩ a2) :=
    ((Kp.one (p := w.heap.size) 0 a0).trans (Kp.one (p := w.heap.size) 1 a1)).trans (Kp.one (p := w.heap.size) 2 a2)
  have hb := t.bb
  exact ⟨t.own.kp hk fun g hg e => by have e : g = w.heap.size := e; have := t.dn g hg; omega, fun g hg => by have := t.dn g hg; omega, t.kp.newer hk (Nat.le_refl _)⟩
theorem Own.alloc_ {w : World} {v : Value} {l : List Nat} {o : Obj} (h : Own BK 5 w v l) : Own BK 5 (w.alloc o) v l := h.alloc o
theorem takeR_some {f : List Nat} {w w' : World} {v' : Value} (h : takeOk f = true) (hn : NewS BK 5 w w' v' (tD (unpackB (midP f)))) : TakeR f w (.returned (.tuple #[.agg #[.bool (tH (unpackB (midP f))), .int .u64 (tC (unpackB (midP f)) : Int), v'], .int .i64 0])) w' := by
  have e1 : tkH f = tH (unpackB (midP f)) := by unfold tkH; rw [h]; rfl
  have e2 : tkN f = tC (unpackB (midP f)) := by unfold tkN; rw [h]; rfl
  have e3 : tkD f = tD (unpackB (midP f)) := by unfold tkD; rw [h]; rfl
  have e4 : tkE f = 0 := by unfold tkE; rw [h]; rfl
  exact ⟨v', by rw [e1, e2, e4], by rw [e3]; exact hn⟩

set_option maxHeartbeats 1000000 in
set_option maxRecDepth 100000 in
theorem take_yes {w : World} {v : Value} {f : List Nat} (hv : Rd BK w v f) (hl : f.length ≤ 1000000) (hx : ∀ x ∈ f, x < 256) (hF : isF f = true) : Calls Tryz.prog 60 #[v] w (TakeR f w) := by
  obtain ⟨A, cap, rfl⟩ := hv.shape
  obtain ⟨x, hxe⟩ : ∃ x, x = midP f := ⟨_, rfl⟩
  have ho : openL f = x := by unfold openL; rw [if_pos hF, hxe]
  have hxl : x.length ≤ 1000000 := by rw [hxe]; unfold midP; rw [List.length_take, List.length_drop]; omega
  have hxx : ∀ y ∈ x, y < 256 := fun y hy => hx y (by rw [hxe] at hy; exact List.mem_of_mem_drop (List.mem_of_mem_take hy))
  obtain ⟨L, hL⟩ : ∃ L, L = unpackB x := ⟨_, rfl⟩
  have hLl : L.length = 8 * x.length := by rw [hL, unpackB_len2]
  obtain ⟨hci, hcl⟩ := tC_int L
  obtain ⟨hb, hhb⟩ : ∃ hb, hb = tH L := ⟨_, rfl⟩
  obtain ⟨r, hr⟩ : ∃ r, r = rgetV L 0 0 1 := ⟨_, rfl⟩
  have hrb : ((r : Int) == 1) = hb := by
    rw [hhb]; unfold tH; rw [← hr]
    by_cases h : r = 1
    · simp [h]
    · rw [decide_eq_false h, beq_eq_false_iff_ne]; omega
  obtain ⟨N, hN⟩ : ∃ N, N = tC L := ⟨_, rfl⟩
  rw [← hN] at hci hcl
  have hNI : ((N : Int) == 18446744073709551615) = false := by rw [beq_eq_false_iff_ne]; omega
  have H := Lib.hid hv; have HX := Lib.hid hx; have HF := Lib.hid hF; have HO := Lib.hid ho; have HXX := Lib.hid hxx; have HL := Lib.hid hL; have HLL := Lib.hid hLl; have HCI := Lib.hid hci; have HHB := Lib.hid hhb; have HR := Lib.hid hr; have HNE := Lib.hid hN
  have HNO := Lib.hid (fun w' (h : tOk L = false) => takeR_none (f := f) (w := w) (w' := w') (by unfold takeOk; rw [← hxe, ← hL, h, hF]; rfl))
  have HYES := Lib.hid (fun w' v' (h : tOk L = true) (hn : NewS BK 5 w w' v' (tD L)) => takeR_some (f := f) (w := w) (w' := w') (v' := v') (by unfold takeOk; rw [← hxe, ← hL, h, hF]; rfl) (by rw [← hxe, ← hL]; exact hn))
  rw [← hxe, ← hL, ← hN, ← hhb] at HYES
  have HT1 := Lib.hid (tN1_le L); have HT2 := Lib.hid (tN_le L)
  clear hv hx hF ho hxe hxx hL hLl hci hcl hhb hr hN
  go_enter Tryz.func60, Tryz.ntmps60
  go_wp2_with fail
  refine (open_any (H.out.alloc _) hl HX.out).mono ?_
  rintro e w1 ⟨v1, rfl, h1⟩
  rw [HF.out]
  rw [HO.out] at h1
  obtain ⟨A1, c1, rfl⟩ := h1.own.rd.shape
  have H1 := Lib.hid h1
  have RS := Lib.hid (h1.kp.blk (blk_new w _) (no_no _))
  have K1 := Lib.hid (((Kp.refl No w).alloc _).trans h1.kp)
  have S1 := Lib.hid (show w.heap.size < w1.heap.size by have := h1.kp.size; simp at this; omega)
  clear h1
  go_wp2_with fail
  refine (newR_any H1.out.own.rd hxl).mono ?_
  rintro e w2 ⟨p, V, rfl, a2, b2, b3, b4, b5⟩
  have A2 := Lib.hid a2; have K2 := Lib.hid (K1.out.trans b2)
  have P2 := Lib.hid (show w.heap.size < p by have := S1.out; omega)
  have PL := Lib.hid b4
  have VL := Lib.hid b5
  have RS2 := Lib.hid (b2.blk RS.out (no_no _))
  clear a2 b2 b3 b4 b5
  go_wp2_with fail
  refine (get_any A2.out hxl HXX.out (Nat.zero_le _) 1 (by decide) 1 rfl).mono ?_
  rintro e w3 ⟨rfl, a3⟩
  rw [← HL.out, ← HR.out]
  rw [← HL.out] at a3
  have hs3 := a3.kp.size
  have S3 := Lib.hid hs3
  have RS3 := Lib.hid (a3.kp.blk RS2.out (fun e => by have e : w.heap.size = p := e; have := P2.out; omega))
  have K3 := Lib.hid (K2.out.newer a3.kp (Nat.le_of_lt P2.out))
  have A3 := Lib.hid (show AtR w2 p V x (tN1 L) (tF1 L) w3 from a3)
  clear a3 hs3
  have B4 := Lib.hid (blk_new w3 (.cells #[.bool hb, .int .u64 0, .slice none 0 0] 118))
  have PW := Lib.hid (show p < w3.heap.size from Nat.lt_of_lt_of_le PL.out S3.out)
  go_wp2_with fail
  refine (rcount_any (A3.out.kpNo ((Kp.refl No w3).alloc _)).here hxl HXX.out (by have := HT1.out; have := HLL.out; omega)).mono ?_
  rintro e w5 ⟨rfl, a5⟩
  rw [← HL.out, HCI.out]
  rw [← HL.out] at a5
  have t5 : TkP w w3.heap.size hb 0 [] (.slice none 0 0) w5 :=
    ⟨a5.kp.blk B4.out (fun e => by have e : w3.heap.size = p := e; have := PW.out; omega), Own.nil _ _ _, a5.kp.blk (blk_alloc RS3.out _) (fun e => by have e : w.heap.size = p := e; have := P2.out; omega),
      (K3.out.alloc _).newer a5.kp (Nat.le_of_lt P2.out), Nat.lt_trans P2.out PW.out, fun g hg => by simp [Value.ownBlock] at hg⟩
  have c51 : w5.cell? ⟨w3.heap.size, 1, none⟩ = some (.int .u64 0) := (blk_cell t5.pkt 1).trans rfl
  have f51 := blk_free t5.pkt 1
  have T6 := Lib.hid (t5.setN (N : Int))
  have VB : Hid (∀ g, V.ownBlock = some g → g < w3.heap.size) := Lib.hid fun g hg => Nat.lt_of_lt_of_le (VL.out g hg).2 S3.out
  have A6 := Lib.hid ((a5.far (Kp.one (w := w5) (p := w3.heap.size) 1 (.int .u64 (N : Int))) (fun e => by have e : p = w3.heap.size := e; have := PW.out; omega) fun g hg e => by have e : g = w3.heap.size := e; have := VB.out g hg; omega).here)
  clear a5 t5
  go_wp2
  go_loopg [25] 201 (fun g _ wr => ∃ k, g = 201 - k ∧ k ≤ 201 ∧ TkI w w3.heap.size p V x hb N k wr)
  case atStart => exact ⟨0, rfl, by omega, [], _, _, _, T6.out, A6.out, rfl, by rw [← HL.out]; exact TkD.start L HT2.out, fun _ => rfl, fun y hy => by simp at hy⟩
  case round =>
    obtain ⟨k, hg, hk, data, D, n, f', htp, har, hdl, htd, hhd, hdx⟩ := hrel
    rw [← HL.out] at htd
    obtain ⟨AD, cD, rfl⟩ := htp.own.rd.shape
    have q0 : wr.cell? ⟨w3.heap.size, 0, none⟩ = some (.bool hb) := (blk_cell htp.pkt 0).trans rfl
    have q1 : wr.cell? ⟨w3.heap.size, 1, none⟩ = some (.int .u64 (N : Int)) := (blk_cell htp.pkt 1).trans rfl
    have q2 : wr.cell? ⟨w3.heap.size, 2, none⟩ = some (.slice AD data.length cD) := (blk_cell htp.pkt 2).trans rfl
    have hn8 : n ≤ 8 * x.length := by rw [← HLL.out]; exact htd.le
    have T := Lib.hid htp; have R := Lib.hid har; have TD := Lib.hid htd; have DX := Lib.hid hdx; have HG := Lib.hid hg; have HDL := Lib.hid hdl; have HHD := Lib.hid hhd; have HN8 := Lib.hid hn8
    by_cases hgo : hb = false ∧ n + 8 ≤ L.length ∧ data.length ≤ 200
    · obtain ⟨g1, g2, g3⟩ := hgo
      subst g1
      have g2I : (8 : Int) ≤ 8 * (x.length : Int) - (n : Int) := by have := HLL.out; omega
      have g3I : (data.length : Int) ≤ 200 := by omega
      obtain ⟨htd2, hy256⟩ := htd.step g2
      obtain ⟨y, hy⟩ : ∃ y, y = rgetV L n f' 8 := ⟨_, rfl⟩
      rw [← hy] at htd2 hy256
      have HY := Lib.hid (show rgetV (unpackB x) n f' 8 = y by rw [hy, HL.out])
      have TD2 := Lib.hid htd2
      have hyw : IntKind.u8.wrap (y : Int) = (y : Int) := IntWalk.u8_in _ (by omega)
      have hk2 : k ≤ 200 := by omega
      have HY2 := Lib.hid hy256
      have b1 : data.length + 1 ≤ maxLen := by unfold maxLen; omega
      have b2 : (data.length + 1) * 1 ≤ 140737488355328 := by omega
      clear htp har htd hdx hg hdl hhd htd2 hy hy256 g2 g3 hn8
      go_wp2_with fail
      refine (left_any R.out hxl HN8.out).mono ?_
      rintro e w6 ⟨rfl, k6⟩
      have T6' := Lib.hid (T.out.no k6); have R6 := Lib.hid ((R.out.kpNo k6).here)
      have q62 : w6.cell? ⟨w3.heap.size, 2, none⟩ = some (.slice AD data.length cD) := k6.cellS q2 (no_no _)
      clear k6
      go_wp2
      go_region_law (first
        | (refine stp_append elB rfl (.tmp 40) (.tmp 44) rfl rfl rfl (l := data) (m := [y]) T7.out.own.alloc_ (Rd.litAt BK 5 _ _ [y] rfl (by unfold maxLen; simp) _ _ rfl rfl) b1 b2 ?_; intro v8 w8 m1 m2 m3; obtain ⟨A8, c8, rfl⟩ := m1.rd.shape; have p8 := m2.blk (T7.out.no ((Kp.refl No _).alloc _)).pkt (fun e => by have := T7.out.dn _ e; omega); have c82 := (blk_cell p8 2).trans rfl; have f82 := blk_free p8 2; have T8 := Lib.hid ((T7.out.no ((Kp.refl No _).alloc _)).app m1 m2 (fun g hg => (m3 g hg).imp id id)); have R8 := Lib.hid ((T7.out.no ((Kp.refl No _).alloc _)).rdr (D' := .slice A8 (data ++ [y]).length c8) m2 (R7.out.kpNo ((Kp.refl No _).alloc _)) PW.out VB.out); clear m1 m2 m3 p8)
        | (go_simp; go_at_call 102; refine (get_any (w := w6.drew) (R6.out.kpNo (Kp.refl No _).drew) hxl HXX.out HN8.out 8 (by decide) 8 rfl).mono ?_; rintro e w7 ⟨rfl, a7⟩; rw [HY.out]; have T7 := Lib.hid (T6'.out.far a7.kp (fun k e => by have e : k = p := e; subst e; exact ⟨P2.out, PW.out⟩)); have q72 : w7.cell? ⟨w3.heap.size, 2, none⟩ = some (.slice AD data.length cD) := (blk_cell T7.out.pkt 2).trans rfl; have q73 : ∀ o, (w7.alloc o).cell? ⟨w3.heap.size, 2, none⟩ = some (.slice AD data.length cD) := (fun o => (blk_cell (T7.out.no ((Kp.refl No _).alloc o)).pkt 2).trans rfl); have R7 := Lib.hid a7; clear a7))
      all_goals
        have ta := T8.out
        have ra := R8.out
        rw [List.length_append, List.length_singleton] at ta ra
        have TA := Lib.hid ta; have RA := Lib.hid ra
        clear ta ra
        go_wp2
        go_roundg (201 - (k + 1))
        case measure => have := HG.out; omega
        case rel => exact ⟨k + 1, rfl, by omega, data ++ [y], _, _, _, TA.out, by have q := RA.out; rw [← HL.out] at q; exact q, by rw [List.length_append, List.length_singleton, HDL.out], by rw [← HL.out]; exact TD2.out, fun e => by simp at e, fun z hz => by rcases List.mem_append.1 hz with hz | hz; exact DX.out z hz; rw [List.mem_singleton.1 hz]; exact HY2.out⟩
    · have hx3 : hb = true ∨ (hb = false ∧ L.length < n + 8) ∨ (hb = false ∧ n + 8 ≤ L.length ∧ 200 < data.length) := by
        cases hb
        · rcases Nat.lt_or_ge L.length (n + 8) with h | h
          · exact .inr (.inl ⟨rfl, h⟩)
          · rcases Nat.lt_or_ge 200 data.length with h' | h'
            · exact .inr (.inr ⟨rfl, h, h'⟩)
            · exact absurd ⟨rfl, h, h'⟩ hgo
        · exact .inl rfl
      have hfin := htd.fin (by omega) (by
        rw [← HHB.out]
        rcases hx3 with h | ⟨h, h'⟩ | ⟨h, h', h''⟩
        · exact .inl ⟨h, hhd h⟩
        · exact .inr ⟨h, .inl (by omega)⟩
        · exact .inr ⟨h, .inr h''⟩)
      obtain ⟨s, hs⟩ : ∃ s, s = rendV L n f' := ⟨_, rfl⟩
      rw [← hs] at hfin
      have HS := Lib.hid (show rendV (unpackB x) n f' = s by rw [hs, HL.out])
      have hres : (s != 0) = true ∨ ((s != 0) = false ∧ 200 < data.length) ∨ ((s != 0) = false ∧ data.length ≤ 200) := by
        by_cases h : s = 0
        · rcases Nat.lt_or_ge 200 data.length with h' | h'
          · exact .inr (.inl ⟨by simp [h], h'⟩)
          · exact .inr (.inr ⟨by simp [h], h'⟩)
        · exact .inl (by simpa using h)
      have HYN := Lib.hid (fun (h1 : (s != 0) = false) (h2 : data.length ≤ 200) => hfin.1 ⟨by simpa using h1, h2⟩)
      have HNN := Lib.hid (fun (h1 : ¬ ((s != 0) = false ∧ data.length ≤ 200)) => hfin.2 fun h => h1 ⟨by simpa using h.1, h.2⟩)
      have hlf := HLL.out
      clear htp har htd hdx hg hdl hhd hs hfin hgo hn8
      rcases hx3 with h1 | ⟨h1, h2⟩ | ⟨h1, h2, h3⟩
      · rcases hres with e1 | ⟨e1, e2⟩ | ⟨e1, e2⟩
        · subst h1
          clear hlf
          have HQ := Lib.hid (HNN.out fun h => by rw [e1] at h; exact absurd h.1 (by decide))
          have T6' := Lib.hid T.out; have R6 := Lib.hid R.out.here
          go_wp2_with fail
          refine (end_any R6.out hxl HXX.out HN8.out).mono ?_
          rintro e w7 ⟨rfl, k7⟩
          rw [HS.out]
          have t7 := T6'.out.no k7
          have p0 : w7.cell? ⟨w3.heap.size, 0, none⟩ = some (.bool _) := (blk_cell t7.pkt 0).trans rfl
          have p1 : w7.cell? ⟨w3.heap.size, 1, none⟩ = some (.int .u64 (N : Int)) := (blk_cell t7.pkt 1).trans rfl
          have p2 : w7.cell? ⟨w3.heap.size, 2, none⟩ = some (.slice AD data.length cD) := (blk_cell t7.pkt 2).trans rfl
          have r0 : w7.cell? ⟨w.heap.size, 0, none⟩ = some (.bool false) := (blk_cell t7.res 0).trans rfl
          have r1 : w7.cell? ⟨w.heap.size, 1, none⟩ = some (.int .u64 0) := (blk_cell t7.res 1).trans rfl
          have r2 : w7.cell? ⟨w.heap.size, 2, none⟩ = some (.slice none 0 0) := (blk_cell t7.res 2).trans rfl
          have s0 := blk_free t7.res 0; have s1 := blk_free t7.res 1; have s2 := blk_free t7.res 2
          have E3 := Lib.hid t7.end3
          clear k7 t7
          go_wp2
          exact bodyPost_ret (v := .tuple #[.agg #[.bool false, .int .u64 0, .slice none 0 0], .int .i64 140]) (by simp [results, Tryz.results60, go_sem, r0, r1, r2]) rfl (HNO.out _ HQ.out (E3.out _ _ _).kp)
        · subst h1
          clear hlf
          have HQ := Lib.hid (HNN.out fun h => by have := h.2; omega)
          have e2I : (200 : Int) < (data.length : Int) := by omega
          clear e2
          have T6' := Lib.hid T.out; have R6 := Lib.hid R.out.here
          go_wp2_with fail
          refine (end_any R6.out hxl HXX.out HN8.out).mono ?_
          rintro e w7 ⟨rfl, k7⟩
          rw [HS.out]
          have t7 := T6'.out.no k7
          have p0 : w7.cell? ⟨w3.heap.size, 0, none⟩ = some (.bool _) := (blk_cell t7.pkt 0).trans rfl
          have p1 : w7.cell? ⟨w3.heap.size, 1, none⟩ = some (.int .u64 (N : Int)) := (blk_cell t7.pkt 1).trans rfl
          have p2 : w7.cell? ⟨w3.heap.size, 2, none⟩ = some (.slice AD data.length cD) := (blk_cell t7.pkt 2).trans rfl
          have r0 : w7.cell? ⟨w.heap.size, 0, none⟩ = some (.bool false) := (blk_cell t7.res 0).trans rfl
          have r1 : w7.cell? ⟨w.heap.size, 1, none⟩ = some (.int .u64 0) := (blk_cell t7.res 1).trans rfl
          have r2 : w7.cell? ⟨w.heap.size, 2, none⟩ = some (.slice none 0 0) := (blk_cell t7.res 2).trans rfl
          have s0 := blk_free t7.res 0; have s1 := blk_free t7.res 1; have s2 := blk_free t7.res 2
          have E3 := Lib.hid t7.end3
          clear k7 t7
          go_wp2
          exact bodyPost_ret (v := .tuple #[.agg #[.bool false, .int .u64 0, .slice none 0 0], .int .i64 140]) (by simp [results, Tryz.results60, go_sem, r0, r1, r2]) rfl (HNO.out _ HQ.out (E3.out _ _ _).kp)
        · subst h1
          clear hlf
          have HQ := Lib.hid (HYN.out e1 e2)
          have e2I : ¬ (200 : Int) < (data.length : Int) := by omega
          clear e2
          have T6' := Lib.hid T.out; have R6 := Lib.hid R.out.here
          go_wp2_with fail
          refine (end_any R6.out hxl HXX.out HN8.out).mono ?_
          rintro e w7 ⟨rfl, k7⟩
          rw [HS.out]
          have t7 := T6'.out.no k7
          have p0 : w7.cell? ⟨w3.heap.size, 0, none⟩ = some (.bool _) := (blk_cell t7.pkt 0).trans rfl
          have p1 : w7.cell? ⟨w3.heap.size, 1, none⟩ = some (.int .u64 (N : Int)) := (blk_cell t7.pkt 1).trans rfl
          have p2 : w7.cell? ⟨w3.heap.size, 2, none⟩ = some (.slice AD data.length cD) := (blk_cell t7.pkt 2).trans rfl
          have r0 : w7.cell? ⟨w.heap.size, 0, none⟩ = some (.bool false) := (blk_cell t7.res 0).trans rfl
          have r1 : w7.cell? ⟨w.heap.size, 1, none⟩ = some (.int .u64 0) := (blk_cell t7.res 1).trans rfl
          have r2 : w7.cell? ⟨w.heap.size, 2, none⟩ = some (.slice none 0 0) := (blk_cell t7.res 2).trans rfl
          have s0 := blk_free t7.res 0; have s1 := blk_free t7.res 1; have s2 := blk_free t7.res 2
          have E3 := Lib.hid t7.end3
          clear k7 t7
          go_wp2
          exact bodyPost_ret (v := .tuple #[.agg #[.bool _, .int .u64 (N : Int), .slice AD data.length cD], .int .i64 0]) (by simp [results, Tryz.results60, go_sem, r0, r1, r2]) rfl (HYES.out _ _ HQ.out.1 (by rw [← HQ.out.2]; exact E3.out _ _ _))
      · rcases hres with e1 | ⟨e1, e2⟩ | ⟨e1, e2⟩
        · subst h1
          have g2I : ¬ (8 : Int) ≤ 8 * (x.length : Int) - (n : Int) := by omega
          clear hlf h2
          have HQ := Lib.hid (HNN.out fun h => by rw [e1] at h; exact absurd h.1 (by decide))
          go_wp2_with fail
          refine (left_any R.out hxl HN8.out).mono ?_
          rintro e w6 ⟨rfl, k6⟩
          have T6' := Lib.hid (T.out.no k6); have R6 := Lib.hid ((R.out.kpNo k6).here)
          have q62 : w6.cell? ⟨w3.heap.size, 2, none⟩ = some (.slice AD data.length cD) := k6.cellS q2 (no_no _)
          clear k6
          go_wp2_with fail
          refine (end_any R6.out hxl HXX.out HN8.out).mono ?_
          rintro e w7 ⟨rfl, k7⟩
          rw [HS.out]
          have t7 := T6'.out.no k7
          have p0 : w7.cell? ⟨w3.heap.size, 0, none⟩ = some (.bool _) := (blk_cell t7.pkt 0).trans rfl
          have p1 : w7.cell? ⟨w3.heap.size, 1, none⟩ = some (.int .u64 (N : Int)) := (blk_cell t7.pkt 1).trans rfl
          have p2 : w7.cell? ⟨w3.heap.size, 2, none⟩ = some (.slice AD data.length cD) := (blk_cell t7.pkt 2).trans rfl
          have r0 : w7.cell? ⟨w.heap.size, 0, none⟩ = some (.bool false) := (blk_cell t7.res 0).trans rfl
          have r1 : w7.cell? ⟨w.heap.size, 1, none⟩ = some (.int .u64 0) := (blk_cell t7.res 1).trans rfl
          have r2 : w7.cell? ⟨w.heap.size, 2, none⟩ = some (.slice none 0 0) := (blk_cell t7.res 2).trans rfl
          have s0 := blk_free t7.res 0; have s1 := blk_free t7.res 1; have s2 := blk_free t7.res 2
          have E3 := Lib.hid t7.end3
          clear k7 t7
          go_wp2
          exact bodyPost_ret (v := .tuple #[.agg #[.bool false, .int .u64 0, .slice none 0 0], .int .i64 140]) (by simp [results, Tryz.results60, go_sem, r0, r1, r2]) rfl (HNO.out _ HQ.out (E3.out _ _ _).kp)
        · subst h1
          have g2I : ¬ (8 : Int) ≤ 8 * (x.length : Int) - (n : Int) := by omega
          clear hlf h2
          have HQ := Lib.hid (HNN.out fun h => by have := h.2; omega)
          have e2I : (200 : Int) < (data.length : Int) := by omega
          clear e2
          go_wp2_with fail
          refine (left_any R.out hxl HN8.out).mono ?_
          rintro e w6 ⟨rfl, k6⟩
          have T6' := Lib.hid (T.out.no k6); have R6 := Lib.hid ((R.out.kpNo k6).here)
          have q62 : w6.cell? ⟨w3.heap.size, 2, none⟩ = some (.slice AD data.length cD) := k6.cellS q2 (no_no _)
          clear k6
          go_wp2_with fail
          refine (end_any R6.out hxl HXX.out HN8.out).mono ?_
          rintro e w7 ⟨rfl, k7⟩
          rw [HS.out]
          have t7 := T6'.out.no k7
          have p0 : w7.cell? ⟨w3.heap.size, 0, none⟩ = some (.bool _) := (blk_cell t7.pkt 0).trans rfl
          have p1 : w7.cell? ⟨w3.heap.size, 1, none⟩ = some (.int .u64 (N : Int)) := (blk_cell t7.pkt 1).trans rfl
          have p2 : w7.cell? ⟨w3.heap.size, 2, none⟩ = some (.slice AD data.length cD) := (blk_cell t7.pkt 2).trans rfl
          have r0 : w7.cell? ⟨w.heap.size, 0, none⟩ = some (.bool false) := (blk_cell t7.res 0).trans rfl
          have r1 : w7.cell? ⟨w.heap.size, 1, none⟩ = some (.int .u64 0) := (blk_cell t7.res 1).trans rfl
          have r2 : w7.cell? ⟨w.heap.size, 2, none⟩ = some (.slice none 0 0) := (blk_cell t7.res 2).trans rfl
          have s0 := blk_free t7.res 0; have s1 := blk_free t7.res 1; have s2 := blk_free t7.res 2
          have E3 := Lib.hid t7.end3
          clear k7 t7
          go_wp2
          exact bodyPost_ret (v := .tuple #[.agg #[.bool false, .int .u64 0, .slice none 0 0], .int .i64 140]) (by simp [results, Tryz.results60, go_sem, r0, r1, r2]) rfl (HNO.out _ HQ.out (E3.out _ _ _).kp)
        · subst h1
          have g2I : ¬ (8 : Int) ≤ 8 * (x.length : Int) - (n : Int) := by omega
          clear hlf h2
          have HQ := Lib.hid (HYN.out e1 e2)
          have e2I : ¬ (200 : Int) < (data.length : Int) := by omega
          clear e2
          go_wp2_with fail
          refine (left_any R.out hxl HN8.out).mono ?_
          rintro e w6 ⟨rfl, k6⟩
          have T6' := Lib.hid (T.out.no k6); have R6 := Lib.hid ((R.out.kpNo k6).here)
          have q62 : w6.cell? ⟨w3.heap.size, 2, none⟩ = some (.slice AD data.length cD) := k6.cellS q2 (no_no _)
          clear k6
          go_wp2_with fail
          refine (end_any R6.out hxl HXX.out HN8.out).mono ?_
          rintro e w7 ⟨rfl, k7⟩
          rw [HS.out]
          have t7 := T6'.out.no k7
          have p0 : w7.cell? ⟨w3.heap.size, 0, none⟩ = some (.bool _) := (blk_cell t7.pkt 0).trans rfl
          have p1 : w7.cell? ⟨w3.heap.size, 1, none⟩ = some (.int .u64 (N : Int)) := (blk_cell t7.pkt 1).trans rfl
          have p2 : w7.cell? ⟨w3.heap.size, 2, none⟩ = some (.slice AD data.length cD) := (blk_cell t7.pkt 2).trans rfl
          have r0 : w7.cell? ⟨w.heap.size, 0, none⟩ = some (.bool false) := (blk_cell t7.res 0).trans rfl
          have r1 : w7.cell? ⟨w.heap.size, 1, none⟩ = some (.int .u64 0) := (blk_cell t7.res 1).trans rfl
          have r2 : w7.cell? ⟨w.heap.size, 2, none⟩ = some (.slice none 0 0) := (blk_cell t7.res 2).trans rfl
          have s0 := blk_free t7.res 0; have s1 := blk_free t7.res 1; have s2 := blk_free t7.res 2
          have E3 := Lib.hid t7.end3
          clear k7 t7
          go_wp2
          exact bodyPost_ret (v := .tuple #[.agg #[.bool _, .int .u64 (N : Int), .slice AD data.length cD], .int .i64 0]) (by simp [results, Tryz.results60, go_sem, r0, r1, r2]) rfl (HYES.out _ _ HQ.out.1 (by rw [← HQ.out.2]; exact E3.out _ _ _))
      · rcases hres with e1 | ⟨e1, e2⟩ | ⟨e1, e2⟩
        · subst h1
          have g2I : (8 : Int) ≤ 8 * (x.length : Int) - (n : Int) := by omega
          have g3I : ¬ (data.length : Int) ≤ 200 := by omega
          clear hlf h2 h3
          have HQ := Lib.hid (HNN.out fun h => by rw [e1] at h; exact absurd h.1 (by decide))
          go_wp2_with fail
          refine (left_any R.out hxl HN8.out).mono ?_
          rintro e w6 ⟨rfl, k6⟩
          have T6' := Lib.hid (T.out.no k6); have R6 := Lib.hid ((R.out.kpNo k6).here)
          have q62 : w6.cell? ⟨w3.heap.size, 2, none⟩ = some (.slice AD data.length cD) := k6.cellS q2 (no_no _)
          clear k6
          go_wp2_with fail
          refine (end_any R6.out hxl HXX.out HN8.out).mono ?_
          rintro e w7 ⟨rfl, k7⟩
          rw [HS.out]
          have t7 := T6'.out.no k7
          have p0 : w7.cell? ⟨w3.heap.size, 0, none⟩ = some (.bool _) := (blk_cell t7.pkt 0).trans rfl
          have p1 : w7.cell? ⟨w3.heap.size, 1, none⟩ = some (.int .u64 (N : Int)) := (blk_cell t7.pkt 1).trans rfl
          have p2 : w7.cell? ⟨w3.heap.size, 2, none⟩ = some (.slice AD data.length cD) := (blk_cell t7.pkt 2).trans rfl
          have r0 : w7.cell? ⟨w.heap.size, 0, none⟩ = some (.bool false) := (blk_cell t7.res 0).trans rfl
          have r1 : w7.cell? ⟨w.heap.size, 1, none⟩ = some (.int .u64 0) := (blk_cell t7.res 1).trans rfl
          have r2 : w7.cell? ⟨w.heap.size, 2, none⟩ = some (.slice none 0 0) := (blk_cell t7.res 2).trans rfl
          have s0 := blk_free t7.res 0; have s1 := blk_free t7.res 1; have s2 := blk_free t7.res 2
          have E3 := Lib.hid t7.end3
          clear k7 t7
          go_wp2
          exact bodyPost_ret (v := .tuple #[.agg #[.bool false, .int .u64 0, .slice none 0 0], .int .i64 140]) (by simp [results, Tryz.results60, go_sem, r0, r1, r2]) rfl (HNO.out _ HQ.out (E3.out _ _ _).kp)
        · subst h1
          have g2I : (8 : Int) ≤ 8 * (x.length : Int) - (n : Int) := by omega
          have g3I : ¬ (data.length : Int) ≤ 200 := by omega
          clear hlf h2 h3
          have HQ := Lib.hid (HNN.out fun h => by have := h.2; omega)
          have e2I : (200 : Int) < (data.length : Int) := by omega
          clear e2
          go_wp2_with fail
          refine (left_any R.out hxl HN8.out).mono ?_
          rintro e w6 ⟨rfl, k6⟩
          have T6' := Lib.hid (T.out.no k6); have R6 := Lib.hid ((R.out.kpNo k6).here)
          have q62 : w6.cell? ⟨w3.heap.size, 2, none⟩ = some (.slice AD data.length cD) := k6.cellS q2 (no_no _)
          clear k6
          go_wp2_with fail
          refine (end_any R6.out hxl HXX.out HN8.out).mono ?_
          rintro e w7 ⟨rfl, k7⟩
          rw [HS.out]
          have t7 := T6'.out.no k7
          have p0 : w7.cell? ⟨w3.heap.size, 0, none⟩ = some (.bool _) := (blk_cell t7.pkt 0).trans rfl
          have p1 : w7.cell? ⟨w3.heap.size, 1, none⟩ = some (.int .u64 (N : Int)) := (blk_cell t7.pkt 1).trans rfl
          have p2 : w7.cell? ⟨w3.heap.size, 2, none⟩ = some (.slice AD data.length cD) := (blk_cell t7.pkt 2).trans rfl
          have r0 : w7.cell? ⟨w.heap.size, 0, none⟩ = some (.bool false) := (blk_cell t7.res 0).trans rfl
          have r1 : w7.cell? ⟨w.heap.size, 1, none⟩ = some (.int .u64 0) := (blk_cell t7.res 1).trans rfl
          have r2 : w7.cell? ⟨w.heap.size, 2, none⟩ = some (.slice none 0 0) := (blk_cell t7.res 2).trans rfl
          have s0 := blk_free t7.res 0; have s1 := blk_free t7.res 1; have s2 := blk_free t7.res 2
          have E3 := Lib.hid t7.end3
          clear k7 t7
          go_wp2
          exact bodyPost_ret (v := .tuple #[.agg #[.bool false, .int .u64 0, .slice none 0 0], .int .i64 140]) (by simp [results, Tryz.results60, go_sem, r0, r1, r2]) rfl (HNO.out _ HQ.out (E3.out _ _ _).kp)
        · omega
end Go.Proofs.YtfpikgkbccgchaaGreatDoor

namespace Go.Proofs.YtfpikgkbccgchaaGreatDoor
set_option linter.unusedVariables false
set_option linter.unusedSimpArgs false
open Go.RowKit

theorem take_any {w : World} {v : Value} {f : List Nat} (hv : Rd BK w v f) (hl : f.length ≤ 1000000) (hx : ∀ x ∈ f, x < 256) : Calls Tryz.prog 60 #[v] w (TakeR f w) := by
  by_cases h : isF f = true
  · exact take_yes hv hl hx h
  · exact take_no hv hl hx (by simpa using h)

/-- What the document's loop has read. -/
structure TqD (L : List Bool) (data : List Nat) (n : Nat) (f : Int) : Prop where
  le : n ≤ L.length
  ok : (tF L = 0 ∧ f = 0 ∧ data = dataP L (tN L) data.length ∧ n = tN L + 8 * data.length) ∨ (tF L ≠ 0 ∧ f = tF L ∧ data = [] ∧ n = tN L)
theorem TqD.start (L : List Bool) (h : tN L ≤ L.length) : TqD L [] (tN L) (tF L) := ⟨h, by
  by_cases hf : tF L = 0
  · exact .inl ⟨hf, hf, rfl, rfl⟩
  · exact .inr ⟨hf, rfl, rfl, rfl⟩⟩
theorem TqD.step {L : List Bool} {data : List Nat} {n : Nat} {f : Int} (h : TqD L data n f) (h8 : n + 8 ≤ L.length) (hf : f = 0) : TqD L (data ++ [rgetV L n f 8]) (rgetN L n f 8) (rgetF L n f 8) ∧ rgetV L n f 8 < 256 := by
  rcases h.ok with ⟨h1, h2, h3, h4⟩ | ⟨h1, h2, _⟩
  · subst h2
    obtain ⟨g1, g2, g3⟩ := rget_full h8
    rw [g1, g2, g3]
    refine ⟨⟨h8, .inl ⟨h1, rfl, ?_, ?_⟩⟩, bval8 _⟩
    · rw [List.length_append, List.length_singleton, dataP_succ, ← h3, ← h4]
    · rw [List.length_append, List.length_singleton]; omega
  · exact absurd (h2.symm.trans hf) h1
theorem TqD.len {L : List Bool} {data : List Nat} {n : Nat} {f : Int} (h : TqD L data n f) : 8 * data.length ≤ L.length := by
  rcases h.ok with ⟨_, _, _, h4⟩ | ⟨_, _, h3, _⟩
  · have := h.le; omega
  · rw [h3]; simp
/-- At the end: just then all is well. -/
theorem TqD.fin {x : List Nat} {data : List Nat} {n : Nat} {f : Int} (hx : ∀ y ∈ x, y < 256) (h : TqD (unpackB x) data n f)
    (he : (unpackB x).length - n < 8 ∨ tH (unpackB x) = true ∨ f ≠ 0) (hd : tH (unpackB x) = true → data = []) :
    (tOk (unpackB x) = true → rendV (unpackB x) n f = 0 ∧ layBad (tH (unpackB x)) (tC (unpackB x)) data = 0 ∧ layL (tH (unpackB x)) (tC (unpackB x)) data = frameP x ∧ data = tD (unpackB x)) ∧
      (tOk (unpackB x) = false → rendV (unpackB x) n f ≠ 0 ∨ layBad (tH (unpackB x)) (tC (unpackB x)) data ≠ 0) := by
  have htb := take_back x hx
  generalize unpackB x = L at *
  rcases h.ok with ⟨h1, h2, h3, h4⟩ | ⟨h1, h2, _⟩
  · subst h2
    have hle := h.le
    have hk : data.length = tK L := by
      unfold tK
      by_cases hh : tH L = true
      · rw [if_pos hh, hd hh]; rfl
      · rw [if_neg hh]
        rcases he with he | he | he
        · omega
        · exact absurd he hh
        · exact absurd rfl he
    have hD : data = tD L := by unfold tD; rw [← hk]; exact h3
    constructor
    · intro hok
      obtain ⟨a, b, c⟩ := htb hok
      rw [← hD] at a b
      refine ⟨?_, a, by unfold layL; rw [if_pos a, b], hD⟩
      unfold tOk at hok
      simp only [Bool.and_eq_true, decide_eq_true_eq] at hok
      rw [h4, hk]; exact hok.2
    · intro hok
      by_cases hr : rendV L n 0 = 0
      · right
        unfold layBad
        have hK : 200 < data.length := by
          rcases Nat.lt_or_ge 200 data.length with h | h
          · exact h
          · exfalso
            unfold tOk at hok
            rw [h1, ← hk, ← h4, hr] at hok
            simp at hok
            omega
        rw [if_pos (.inl hK)]; decide
      · exact .inl hr
  · have hne : rendV L n f ≠ 0 := by unfold rendV; rw [h2, if_neg h1]; exact h1
    have : tOk L = false := by unfold tOk; rw [decide_eq_false h1]; rfl
    exact ⟨fun e => absurd (this.symm.trans e) (by decide), fun _ => .inl hne⟩

theorem TkP.rdq {w : World} {b : Nat} {h : Bool} {N : Int} {data : List Nat} {D : Value} {w1 w6 : World} {D' : Value} {p n : Nat} {V : Value} {L : List Bool} {f : Int} {w0 : World} (t : TkP w b h N data D w1) (k2 : Kp (fun k => D.ownBlock = some k) w1 w6) (a : AtQ w0 p V L n f w1) (hp : p < b) (hv : ∀ g, V.ownBlock = some g → g < b) : AtQ (w6.setCell ⟨b, 2, none⟩ D') p V L n f (w6.setCell ⟨b, 2, none⟩ D') := by
  have a6 := a.far k2 (fun e => by have := t.dn _ e; omega) fun g hg e => by have := t.dn _ e; have := hv g hg; omega
  exact (a6.far (Kp.one 2 D') (fun e => by have e : p = b := e; omega) fun g hg e => by have e : g = b := e; have := hv g hg; omega).here

def TqI (w : World) (b p : Nat) (V : Value) (x : List Nat) (h : Bool) (N : Int) (k : Nat) (wr : World) : Prop :=
  ∃ data D n f, TkP w b h N data D wr ∧ AtQ wr p V (unpackB x) n f wr ∧ data.length = k ∧ TqD (unpackB x) data n f ∧ (h = true → data = []) ∧ ∀ y ∈ data, y < 256

set_option maxRecDepth 100000 in
theorem rtake_no {w : World} {v : Value} {f : List Nat} (hv : Rd BK w v f) (hl : f.length ≤ 1000000) (hx : ∀ x ∈ f, x < 256) (hF : isF f = false) : Calls Tryz.prog 85 #[v] w (TakeR f w) := by
  obtain ⟨A, cap, rfl⟩ := hv.shape
  have H := Lib.hid hv; have HX := Lib.hid hx; have HF := Lib.hid hF
  have HR := Lib.hid (fun w' => takeR_none (f := f) (w := w) (w' := w') (by unfold takeOk; rw [hF]; rfl))
  clear hv hx hF
  go_enter Tryz.func85, Tryz.ntmps85
  go_wp2_with fail
  refine (ropen_any (H.out.alloc _) hl HX.out).mono ?_
  rintro e w1 ⟨v1, rfl, h1, h2⟩
  rw [HF.out]
  obtain ⟨A1, c1, rfl⟩ := h1.shape
  have K1 := Lib.hid (((Kp.refl No w).alloc _).trans h2)
  have B1 := h2.blk (blk_new w _) (no_no _)
  have f0 := blk_free B1 0; have f1 := blk_free B1 1; have f2 := blk_free B1 2
  have b0 : w1.cell? ⟨w.heap.size, 0, none⟩ = some (.bool false) := (blk_cell B1 0).trans rfl
  have b1 : w1.cell? ⟨w.heap.size, 1, none⟩ = some (.int .u64 0) := (blk_cell B1 1).trans rfl
  have b2 : w1.cell? ⟨w.heap.size, 2, none⟩ = some (.slice none 0 0) := (blk_cell B1 2).trans rfl
  clear h1 h2 B1
  go_wp2
  exact bodyPost_ret (v := .tuple #[.agg #[.bool false, .int .u64 0, .slice none 0 0], .int .i64 140]) (by simp [results, Tryz.results85, go_sem, b0, b1, b2]) rfl (HR.out _ (((K1.out.setCell (fun h => absurd h (Nat.lt_irrefl _)) _).setCell (fun h => absurd h (Nat.lt_irrefl _)) _).setCell (fun h => absurd h (Nat.lt_irrefl _)) _))

set_option maxHeartbeats 1000000 in
set_option maxRecDepth 100000 in
theorem rtake_yes {w : World} {v : Value} {f : List Nat} (hv : Rd BK w v f) (hl : f.length ≤ 1000000) (hx : ∀ x ∈ f, x < 256) (hF : isF f = true) : Calls Tryz.prog 85 #[v] w (TakeR f w) := by
  obtain ⟨A, cap, rfl⟩ := hv.shape
  obtain ⟨x, hxe⟩ : ∃ x, x = midP f := ⟨_, rfl⟩
  have ho : openL f = x := by unfold openL; rw [if_pos hF, hxe]
  have hfx : frameP x = f := by
    have h := hF
    unfold isF at h
    simp only [Bool.and_eq_true, decide_eq_true_eq] at h
    rw [hxe]; exact h.2
  have hxl : x.length ≤ 1000 := by
    have h := hF
    unfold isF at h
    simp only [Bool.and_eq_true, decide_eq_true_eq] at h
    rw [hxe]; unfold midP; rw [List.length_take, List.length_drop]; omega
  have hxx : ∀ y ∈ x, y < 256 := fun y hy => hx y (by rw [hxe] at hy; exact List.mem_of_mem_drop (List.mem_of_mem_take hy))
  obtain ⟨L, hL⟩ : ∃ L, L = unpackB x := ⟨_, rfl⟩
  have hLl : L.length = 8 * x.length := by rw [hL, unpackB_len2]
  have hL8 : L.length ≤ 8000 := by omega
  have hL9 : L.length ≤ 8000000 := by omega
  obtain ⟨hci, hcl⟩ := tC_int L
  obtain ⟨hb, hhb⟩ : ∃ hb, hb = tH L := ⟨_, rfl⟩
  obtain ⟨r, hr⟩ : ∃ r, r = rgetV L 0 0 1 := ⟨_, rfl⟩
  have hrb : ((r : Int) == 1) = hb := by
    rw [hhb]; unfold tH; rw [← hr]
    by_cases h : r = 1
    · simp [h]
    · rw [decide_eq_false h, beq_eq_false_iff_ne]; omega
  obtain ⟨N, hN⟩ : ∃ N, N = tC L := ⟨_, rfl⟩
  rw [← hN] at hci hcl
  have H := Lib.hid hv; have HX := Lib.hid hx; have HF := Lib.hid hF; have HO := Lib.hid ho; have HXX := Lib.hid hxx; have HL := Lib.hid hL; have HLL := Lib.hid hLl; have HCI := Lib.hid hci; have HHB := Lib.hid hhb; have HR := Lib.hid hr; have HNE := Lib.hid hN; have HCL := Lib.hid hcl; have HFX := Lib.hid hfx
  have HNO := Lib.hid (fun w' (h : tOk L = false) => takeR_none (f := f) (w := w) (w' := w') (by unfold takeOk; rw [← hxe, ← hL, h, hF]; rfl))
  have HYES := Lib.hid (fun w' v' (h : tOk L = true) (hn : NewS BK 5 w w' v' (tD L)) => takeR_some (f := f) (w := w) (w' := w') (v' := v') (by unfold takeOk; rw [← hxe, ← hL, h, hF]; rfl) (by rw [← hxe, ← hL]; exact hn))
  rw [← hxe, ← hL, ← hN, ← hhb] at HYES
  have HT1 := Lib.hid (tN1_le L); have HT2 := Lib.hid (tN_le L)
  clear hv hx hF ho hxe hxx hL hLl hci hcl hhb hr hN hfx
  go_enter Tryz.func85, Tryz.ntmps85
  go_wp2_with fail
  refine (ropen_any (H.out.alloc _) hl HX.out).mono ?_
  rintro e w1 ⟨v1, rfl, h1, h2⟩
  rw [HF.out]
  rw [HO.out] at h1
  obtain ⟨A1, c1, rfl⟩ := h1.shape
  have H1 := Lib.hid h1
  have RS := Lib.hid (h2.blk (blk_new w _) (no_no _))
  have K1 := Lib.hid (((Kp.refl No w).alloc _).trans h2)
  have S1 := Lib.hid (show w.heap.size < w1.heap.size by have := h2.size; simp at this; omega)
  clear h1 h2
  go_wp2_with fail
  refine (rof_any H1.out (Nat.le_trans hxl (by decide)) HXX.out).mono ?_
  rintro e w2 ⟨p, rfl, V, a2⟩
  rw [← HL.out] at a2
  have A2 := Lib.hid a2.at; have K2 := Lib.hid (K1.out.trans a2.kp)
  have P2 := Lib.hid (show w.heap.size < p by have := S1.out; have := a2.po; omega)
  have PL := Lib.hid (lt_of_block a2.blk)
  have VL := Lib.hid (fun g hg => a2.own.lt (g := g) hg)
  have RS2 := Lib.hid (a2.kp.blk RS.out (no_no _))
  clear a2
  go_wp2_with fail
  refine (qget_any A2.out hL9 (Nat.zero_le _) 1 (by decide) 1 rfl).mono ?_
  rintro e w3 ⟨rfl, a3⟩
  rw [← HR.out]
  have hs3 := a3.kp.size
  have S3 := Lib.hid hs3
  have RS3 := Lib.hid (a3.kp.blk RS2.out (fun e => by have e : w.heap.size = p := e; have := P2.out; omega))
  have K3 := Lib.hid (K2.out.newer a3.kp (Nat.le_of_lt P2.out))
  have A3 := Lib.hid (show AtQ w2 p V L (tN1 L) (tF1 L) w3 from a3)
  clear a3 hs3
  have B4 := Lib.hid (blk_new w3 (.cells #[.bool hb, .int .u64 0, .slice none 0 0] 118))
  have PW := Lib.hid (show p < w3.heap.size from Nat.lt_of_lt_of_le PL.out S3.out)
  go_wp2_with fail
  refine (qcount_any (A3.out.kpNo ((Kp.refl No w3).alloc _)).here hL9 HT1.out).mono ?_
  rintro e w5 ⟨rfl, a5⟩
  rw [HCI.out]
  have t5 : TkP w w3.heap.size hb 0 [] (.slice none 0 0) w5 :=
    ⟨a5.kp.blk B4.out (fun e => by have e : w3.heap.size = p := e; have := PW.out; omega), Own.nil _ _ _, a5.kp.blk (blk_alloc RS3.out _) (fun e => by have e : w.heap.size = p := e; have := P2.out; omega),
      (K3.out.alloc _).newer a5.kp (Nat.le_of_lt P2.out), Nat.lt_trans P2.out PW.out, fun g hg => by simp [Value.ownBlock] at hg⟩
  have c51 : w5.cell? ⟨w3.heap.size, 1, none⟩ = some (.int .u64 0) := (blk_cell t5.pkt 1).trans rfl
  have f51 := blk_free t5.pkt 1
  have T6 := Lib.hid (t5.setN (N : Int))
  have VB : Hid (∀ g, V.ownBlock = some g → g < w3.heap.size) := Lib.hid fun g hg => Nat.lt_of_lt_of_le (VL.out g hg) S3.out
  have A6 := Lib.hid ((a5.far (Kp.one (w := w5) (p := w3.heap.size) 1 (.int .u64 (N : Int))) (fun e => by have e : p = w3.heap.size := e; have := PW.out; omega) fun g hg e => by have e : g = w3.heap.size := e; have := VB.out g hg; omega).here)
  clear a5 t5
  go_wp2
  go_loopg [27] (x.length + 1) (fun g _ wr => ∃ k, g = x.length + 1 - k ∧ k ≤ x.length ∧ TqI w w3.heap.size p V x hb N k wr)
  case atStart => exact ⟨0, rfl, by omega, [], _, _, _, T6.out, by rw [← HL.out]; exact A6.out, rfl, by rw [← HL.out]; exact TqD.start L HT2.out, fun _ => rfl, fun y hy => by simp at hy⟩
  case round =>
    obtain ⟨k, hg, hk, data, D, n, f', htp, har, hdl, htd, hhd, hdx⟩ := hrel
    have htdx := htd
    rw [← HL.out] at htd har
    obtain ⟨AD, cD, rfl⟩ := htp.own.rd.shape
    obtain ⟨VA, VC, u0, u1, u2, _⟩ := har.parts
    have q0 : wr.cell? ⟨w3.heap.size, 0, none⟩ = some (.bool hb) := (blk_cell htp.pkt 0).trans rfl
    have q2 : wr.cell? ⟨w3.heap.size, 2, none⟩ = some (.slice AD data.length cD) := (blk_cell htp.pkt 2).trans rfl
    have hn := htd.le
    have T := Lib.hid htp; have R := Lib.hid har; have TD := Lib.hid htd; have DX := Lib.hid hdx; have HG := Lib.hid hg; have HDL := Lib.hid hdl; have HHD := Lib.hid hhd; have HN := Lib.hid hn
    have ew : IntKind.i64.wrap ((L.length : Int) - (n : Int)) = (L.length : Int) - (n : Int) := IntWalk.i64_in _ (by omega)
    by_cases hgo : n + 8 ≤ L.length ∧ hb = false ∧ f' = 0
    · obtain ⟨g1, g2, g3⟩ := hgo
      subst g2
      have g1I : decide ((8 : Int) ≤ (L.length : Int) - (n : Int)) = true := by simp; omega
      have g3I : (f' == 0) = true := by simp [g3]
      obtain ⟨htd2, hy256⟩ := htd.step g1 g3
      have hkx : data.length + 1 ≤ x.length := by have := htd2.len; rw [List.length_append, List.length_singleton] at this; have := HLL.out; omega
      obtain ⟨y, hy⟩ : ∃ y, y = rgetV L n f' 8 := ⟨_, rfl⟩
      rw [← hy] at htd2 hy256
      have HY := Lib.hid hy.symm
      have TD2 := Lib.hid htd2
      have hyw : IntKind.u8.wrap (y : Int) = (y : Int) := IntWalk.u8_in _ (by omega)
      have hk2 : k + 1 ≤ x.length := by omega
      have HY2 := Lib.hid hy256
      have b1 : data.length + 1 ≤ maxLen := by unfold maxLen; omega
      have b2 : (data.length + 1) * 1 ≤ 140737488355328 := by omega
      clear htp har htd htdx hdx hg hdl hhd htd2 hy hy256 g1 g3 hn hkx
      go_wp2
      go_quiet (fail)
      generalize hwq : wr.drewN _ = wq
      have kq : Kp No wr wq := by rw [← hwq]; exact (Kp.refl _ _).drewN _
      clear hwq
      have T6' := Lib.hid (T.out.no kq); have R6 := Lib.hid ((R.out.kpNo kq).here)
      have q62 : wq.cell? ⟨w3.heap.size, 2, none⟩ = some (.slice AD data.length cD) := kq.cellS q2 (no_no _)
      clear kq
      go_wp2
      go_region_law (first
        | (refine stp_append elB rfl (.tmp 51) (.tmp 55) rfl rfl rfl (l := data) (m := [y]) T7.out.own.alloc_ (Rd.litAt BK 5 _ _ [y] rfl (by unfold maxLen; simp) _ _ rfl rfl) b1 b2 ?_; intro v8 w8 m1 m2 m3; obtain ⟨A8, c8, rfl⟩ := m1.rd.shape; have p8 := m2.blk (T7.out.no ((Kp.refl No _).alloc _)).pkt (fun e => by have := T7.out.dn _ e; omega); have c82 := (blk_cell p8 2).trans rfl; have f82 := blk_free p8 2; have T8 := Lib.hid ((T7.out.no ((Kp.refl No _).alloc _)).app m1 m2 (fun g hg => (m3 g hg).imp id id)); have M2 := Lib.hid m2; clear m1 m2 m3 p8)
        | (go_simp; go_at_call 122; refine (qget_any (w := wq.drew) (R6.out.kpNo (Kp.refl No _).drew) hL9 HN.out 8 (by decide) 8 rfl).mono ?_; rintro e w7 ⟨rfl, a7⟩; rw [HY.out]; have T7 := Lib.hid (T6'.out.far a7.kp (fun k e => by have e : k = p := e; subst e; exact ⟨P2.out, PW.out⟩)); have q72 : w7.cell? ⟨w3.heap.size, 2, none⟩ = some (.slice AD data.length cD) := (blk_cell T7.out.pkt 2).trans rfl; have q73 : ∀ o, (w7.alloc o).cell? ⟨w3.heap.size, 2, none⟩ = some (.slice AD data.length cD) := (fun o => (blk_cell (T7.out.no ((Kp.refl No _).alloc o)).pkt 2).trans rfl); have R7 := Lib.hid a7; clear a7))
      all_goals
        have ta := T8.out
        have ra := (T7.out.no ((Kp.refl No _).alloc _)).rdq (D' := .slice A8 (data ++ [y]).length c8) M2.out (R7.out.kpNo ((Kp.refl No _).alloc _)) PW.out VB.out
        rw [List.length_append, List.length_singleton] at ta ra
        have TA := Lib.hid ta; have RA := Lib.hid ra
        clear ta ra
        go_wp2
        go_roundg (x.length + 1 - (k + 1))
        case measure => have := HG.out; omega
        case rel => exact ⟨k + 1, rfl, by omega, data ++ [y], _, _, _, TA.out, by rw [← HL.out]; exact RA.out, by rw [List.length_append, List.length_singleton, HDL.out], by rw [← HL.out]; exact TD2.out, fun e => by simp at e, fun z hz => by rcases List.mem_append.1 hz with hz | hz; exact DX.out z hz; rw [List.mem_singleton.1 hz]; exact HY2.out⟩
    · have hx3 : L.length < n + 8 ∨ (n + 8 ≤ L.length ∧ hb = true) ∨ (n + 8 ≤ L.length ∧ hb = false ∧ f' ≠ 0) := by
        rcases Nat.lt_or_ge L.length (n + 8) with h | h
        · exact .inl h
        · cases hb
          · exact .inr (.inr ⟨h, rfl, fun e => hgo ⟨h, rfl, e⟩⟩)
          · exact .inr (.inl ⟨h, rfl⟩)
      have hfin := htdx.fin HXX.out (by
        rw [← HL.out, ← HHB.out]
        rcases hx3 with h | ⟨_, h⟩ | ⟨_, _, h⟩
        · exact .inl (by omega)
        · exact .inr (.inl h)
        · exact .inr (.inr h)) (by rw [← HL.out, ← HHB.out]; exact hhd)
      rw [← HL.out, ← HHB.out, ← HNE.out, HFX.out] at hfin
      obtain ⟨s, hs⟩ : ∃ s, s = rendV L n f' := ⟨_, rfl⟩
      obtain ⟨bd, hbd⟩ : ∃ bd, bd = layBad hb N data := ⟨_, rfl⟩
      obtain ⟨Y, hY⟩ : ∃ Y, Y = layL hb N data := ⟨_, rfl⟩
      have hYx : ∀ z ∈ Y, z < 256 := by
        rw [hY]; unfold layL
        split
        · exact frameP_lt _ (packB_lt _)
        · intro z hz; simp at hz
      rw [← hs, ← hbd, ← hY] at hfin
      have hyb := strB_beq hYx HX.out
      have hres : (tOk L = true ∧ (s != 0) = false ∧ (bd != 0) = false ∧ decide (Y = f) = true ∧ data = tD L) ∨ (tOk L = false ∧ (s != 0) = true) ∨ (tOk L = false ∧ (s != 0) = false ∧ (bd != 0) = true) := by
        cases ht : tOk L
        · right
          by_cases h : s = 0
          · rcases hfin.2 ht with h' | h'
            · exact absurd h h'
            · exact .inr ⟨rfl, by simp [h], by simpa using h'⟩
          · exact .inl ⟨rfl, by simpa using h⟩
        · obtain ⟨a, b, c, d⟩ := hfin.1 ht
          exact .inl ⟨rfl, by simp [a], by simp [b], by simp [c], d⟩
      have HS := Lib.hid hs.symm; have HBD := Lib.hid hbd.symm; have HYY := Lib.hid hY.symm
      have hhd2 := hhd
      clear htp har htd htdx hdx hg hdl hhd hs hfin hgo hn hbd hY hYx
      rcases hx3 with h1 | ⟨h1, h2⟩ | ⟨h1, h2, h3⟩
      · rcases hres with ⟨e0, e1, e2, e3, e4⟩ | ⟨e0, e1⟩ | ⟨e0, e1, e2⟩
        · have g1I : decide ((8 : Int) ≤ (L.length : Int) - (n : Int)) = false := by simp; omega
          clear h1 hhd2
          have HQ := Lib.hid e0
          have HE := Lib.hid e4
          rw [e3] at hyb
          clear e0 e3 e4
          go_wp2
          go_quiet (fail)
          generalize hwq : wr.drewN _ = wq
          have kq : Kp No wr wq := by rw [← hwq]; exact (Kp.refl _ _).drewN _
          clear hwq
          have T6' := Lib.hid (T.out.no kq); have R6 := Lib.hid ((R.out.kpNo kq).here)
          have o0 : wq.cell? ⟨w3.heap.size, 0, none⟩ = some (.bool _) := (blk_cell T6'.out.pkt 0).trans rfl
          have o1 : wq.cell? ⟨w3.heap.size, 1, none⟩ = some (.int .u64 (N : Int)) := (blk_cell T6'.out.pkt 1).trans rfl
          have o2 : wq.cell? ⟨w3.heap.size, 2, none⟩ = some (.slice AD data.length cD) := (blk_cell T6'.out.pkt 2).trans rfl
          clear kq
          go_wp2_with fail
          refine (rlay_any T6'.out.own.rd _ N (Nat.lt_succ_of_lt HCL.out) DX.out).mono ?_
          rintro e w6 ⟨v6, rfl, k6⟩
          rw [HBD.out]
          rw [HYY.out] at k6
          obtain ⟨A6', c6, rfl⟩ := k6.own.rd.shape
          have T9 := Lib.hid (T6'.out.no k6.kp); have R9 := Lib.hid ((R6.out.kpNo k6.kp).here); have K6 := Lib.hid k6
          clear k6
          go_wp2_with fail
          refine (qend_any R9.out hL9 HN.out).mono ?_
          rintro e w7 ⟨rfl, k7⟩
          rw [HS.out]
          have t7 := T9.out.no k7
          have hst1 := (K6.out.own.rd.kpNo k7).str
          have hst2 := (H.out.kpNo t7.kp).str
          have p0 : w7.cell? ⟨w3.heap.size, 0, none⟩ = some (.bool _) := (blk_cell t7.pkt 0).trans rfl
          have p1 : w7.cell? ⟨w3.heap.size, 1, none⟩ = some (.int .u64 (N : Int)) := (blk_cell t7.pkt 1).trans rfl
          have p2 : w7.cell? ⟨w3.heap.size, 2, none⟩ = some (.slice AD data.length cD) := (blk_cell t7.pkt 2).trans rfl
          have r0 : w7.cell? ⟨w.heap.size, 0, none⟩ = some (.bool false) := (blk_cell t7.res 0).trans rfl
          have r1 : w7.cell? ⟨w.heap.size, 1, none⟩ = some (.int .u64 0) := (blk_cell t7.res 1).trans rfl
          have r2 : w7.cell? ⟨w.heap.size, 2, none⟩ = some (.slice none 0 0) := (blk_cell t7.res 2).trans rfl
          have s0 := blk_free t7.res 0; have s1 := blk_free t7.res 1; have s2 := blk_free t7.res 2
          have E3 := Lib.hid t7.end3
          clear k7 t7
          go_wp2
          exact bodyPost_ret (v := .tuple #[.agg #[.bool _, .int .u64 (N : Int), .slice AD data.length cD], .int .i64 0]) (by simp [results, Tryz.results85, go_sem, r0, r1, r2]) rfl (HYES.out _ _ HQ.out (by rw [← HE.out]; exact E3.out _ _ _))
        · have g1I : decide ((8 : Int) ≤ (L.length : Int) - (n : Int)) = false := by simp; omega
          clear h1 hhd2
          have HQ := Lib.hid e0
          clear e0 hyb
          go_wp2
          go_quiet (fail)
          generalize hwq : wr.drewN _ = wq
          have kq : Kp No wr wq := by rw [← hwq]; exact (Kp.refl _ _).drewN _
          clear hwq
          have T6' := Lib.hid (T.out.no kq); have R6 := Lib.hid ((R.out.kpNo kq).here)
          have o0 : wq.cell? ⟨w3.heap.size, 0, none⟩ = some (.bool _) := (blk_cell T6'.out.pkt 0).trans rfl
          have o1 : wq.cell? ⟨w3.heap.size, 1, none⟩ = some (.int .u64 (N : Int)) := (blk_cell T6'.out.pkt 1).trans rfl
          have o2 : wq.cell? ⟨w3.heap.size, 2, none⟩ = some (.slice AD data.length cD) := (blk_cell T6'.out.pkt 2).trans rfl
          clear kq
          go_wp2_with fail
          refine (rlay_any T6'.out.own.rd _ N (Nat.lt_succ_of_lt HCL.out) DX.out).mono ?_
          rintro e w6 ⟨v6, rfl, k6⟩
          rw [HBD.out]
          rw [HYY.out] at k6
          obtain ⟨A6', c6, rfl⟩ := k6.own.rd.shape
          have T9 := Lib.hid (T6'.out.no k6.kp); have R9 := Lib.hid ((R6.out.kpNo k6.kp).here); have K6 := Lib.hid k6
          clear k6
          go_wp2_with fail
          refine (qend_any R9.out hL9 HN.out).mono ?_
          rintro e w7 ⟨rfl, k7⟩
          rw [HS.out]
          have t7 := T9.out.no k7
          have hst1 := (K6.out.own.rd.kpNo k7).str
          have hst2 := (H.out.kpNo t7.kp).str
          have p0 : w7.cell? ⟨w3.heap.size, 0, none⟩ = some (.bool _) := (blk_cell t7.pkt 0).trans rfl
          have p1 : w7.cell? ⟨w3.heap.size, 1, none⟩ = some (.int .u64 (N : Int)) := (blk_cell t7.pkt 1).trans rfl
          have p2 : w7.cell? ⟨w3.heap.size, 2, none⟩ = some (.slice AD data.length cD) := (blk_cell t7.pkt 2).trans rfl
          have r0 : w7.cell? ⟨w.heap.size, 0, none⟩ = some (.bool false) := (blk_cell t7.res 0).trans rfl
          have r1 : w7.cell? ⟨w.heap.size, 1, none⟩ = some (.int .u64 0) := (blk_cell t7.res 1).trans rfl
          have r2 : w7.cell? ⟨w.heap.size, 2, none⟩ = some (.slice none 0 0) := (blk_cell t7.res 2).trans rfl
          have s0 := blk_free t7.res 0; have s1 := blk_free t7.res 1; have s2 := blk_free t7.res 2
          have E3 := Lib.hid t7.end3
          clear k7 t7
          go_wp2
          exact bodyPost_ret (v := .tuple #[.agg #[.bool false, .int .u64 0, .slice none 0 0], .int .i64 140]) (by simp [results, Tryz.results85, go_sem, r0, r1, r2]) rfl (HNO.out _ HQ.out (E3.out _ _ _).kp)
        · have g1I : decide ((8 : Int) ≤ (L.length : Int) - (n : Int)) = false := by simp; omega
          clear h1 hhd2
          have HQ := Lib.hid e0
          clear e0 hyb
          go_wp2
          go_quiet (fail)
          generalize hwq : wr.drewN _ = wq
          have kq : Kp No wr wq := by rw [← hwq]; exact (Kp.refl _ _).drewN _
          clear hwq
          have T6' := Lib.hid (T.out.no kq); have R6 := Lib.hid ((R.out.kpNo kq).here)
          have o0 : wq.cell? ⟨w3.heap.size, 0, none⟩ = some (.bool _) := (blk_cell T6'.out.pkt 0).trans rfl
          have o1 : wq.cell? ⟨w3.heap.size, 1, none⟩ = some (.int .u64 (N : Int)) := (blk_cell T6'.out.pkt 1).trans rfl
          have o2 : wq.cell? ⟨w3.heap.size, 2, none⟩ = some (.slice AD data.length cD) := (blk_cell T6'.out.pkt 2).trans rfl
          clear kq
          go_wp2_with fail
          refine (rlay_any T6'.out.own.rd _ N (Nat.lt_succ_of_lt HCL.out) DX.out).mono ?_
          rintro e w6 ⟨v6, rfl, k6⟩
          rw [HBD.out]
          rw [HYY.out] at k6
          obtain ⟨A6', c6, rfl⟩ := k6.own.rd.shape
          have T9 := Lib.hid (T6'.out.no k6.kp); have R9 := Lib.hid ((R6.out.kpNo k6.kp).here); have K6 := Lib.hid k6
          clear k6
          go_wp2_with fail
          refine (qend_any R9.out hL9 HN.out).mono ?_
          rintro e w7 ⟨rfl, k7⟩
          rw [HS.out]
          have t7 := T9.out.no k7
          have hst1 := (K6.out.own.rd.kpNo k7).str
          have hst2 := (H.out.kpNo t7.kp).str
          have p0 : w7.cell? ⟨w3.heap.size, 0, none⟩ = some (.bool _) := (blk_cell t7.pkt 0).trans rfl
          have p1 : w7.cell? ⟨w3.heap.size, 1, none⟩ = some (.int .u64 (N : Int)) := (blk_cell t7.pkt 1).trans rfl
          have p2 : w7.cell? ⟨w3.heap.size, 2, none⟩ = some (.slice AD data.length cD) := (blk_cell t7.pkt 2).trans rfl
          have r0 : w7.cell? ⟨w.heap.size, 0, none⟩ = some (.bool false) := (blk_cell t7.res 0).trans rfl
          have r1 : w7.cell? ⟨w.heap.size, 1, none⟩ = some (.int .u64 0) := (blk_cell t7.res 1).trans rfl
          have r2 : w7.cell? ⟨w.heap.size, 2, none⟩ = some (.slice none 0 0) := (blk_cell t7.res 2).trans rfl
          have s0 := blk_free t7.res 0; have s1 := blk_free t7.res 1; have s2 := blk_free t7.res 2
          have E3 := Lib.hid t7.end3
          clear k7 t7
          go_wp2
          exact bodyPost_ret (v := .tuple #[.agg #[.bool false, .int .u64 0, .slice none 0 0], .int .i64 140]) (by simp [results, Tryz.results85, go_sem, r0, r1, r2]) rfl (HNO.out _ HQ.out (E3.out _ _ _).kp)
      · rcases hres with ⟨e0, e1, e2, e3, e4⟩ | ⟨e0, e1⟩ | ⟨e0, e1, e2⟩
        · subst h2
          have g1I : decide ((8 : Int) ≤ (L.length : Int) - (n : Int)) = true := by simp; omega
          clear h1 hhd2
          have HQ := Lib.hid e0
          have HE := Lib.hid e4
          rw [e3] at hyb
          clear e0 e3 e4
          go_wp2
          go_quiet (fail)
          generalize hwq : wr.drewN _ = wq
          have kq : Kp No wr wq := by rw [← hwq]; exact (Kp.refl _ _).drewN _
          clear hwq
          have T6' := Lib.hid (T.out.no kq); have R6 := Lib.hid ((R.out.kpNo kq).here)
          have o0 : wq.cell? ⟨w3.heap.size, 0, none⟩ = some (.bool _) := (blk_cell T6'.out.pkt 0).trans rfl
          have o1 : wq.cell? ⟨w3.heap.size, 1, none⟩ = some (.int .u64 (N : Int)) := (blk_cell T6'.out.pkt 1).trans rfl
          have o2 : wq.cell? ⟨w3.heap.size, 2, none⟩ = some (.slice AD data.length cD) := (blk_cell T6'.out.pkt 2).trans rfl
          clear kq
          go_wp2_with fail
          refine (rlay_any T6'.out.own.rd _ N (Nat.lt_succ_of_lt HCL.out) DX.out).mono ?_
          rintro e w6 ⟨v6, rfl, k6⟩
          rw [HBD.out]
          rw [HYY.out] at k6
          obtain ⟨A6', c6, rfl⟩ := k6.own.rd.shape
          have T9 := Lib.hid (T6'.out.no k6.kp); have R9 := Lib.hid ((R6.out.kpNo k6.kp).here); have K6 := Lib.hid k6
          clear k6
          go_wp2_with fail
          refine (qend_any R9.out hL9 HN.out).mono ?_
          rintro e w7 ⟨rfl, k7⟩
          rw [HS.out]
          have t7 := T9.out.no k7
          have hst1 := (K6.out.own.rd.kpNo k7).str
          have hst2 := (H.out.kpNo t7.kp).str
          have p0 : w7.cell? ⟨w3.heap.size, 0, none⟩ = some (.bool _) := (blk_cell t7.pkt 0).trans rfl
          have p1 : w7.cell? ⟨w3.heap.size, 1, none⟩ = some (.int .u64 (N : Int)) := (blk_cell t7.pkt 1).trans rfl
          have p2 : w7.cell? ⟨w3.heap.size, 2, none⟩ = some (.slice AD data.length cD) := (blk_cell t7.pkt 2).trans rfl
          have r0 : w7.cell? ⟨w.heap.size, 0, none⟩ = some (.bool false) := (blk_cell t7.res 0).trans rfl
          have r1 : w7.cell? ⟨w.heap.size, 1, none⟩ = some (.int .u64 0) := (blk_cell t7.res 1).trans rfl
          have r2 : w7.cell? ⟨w.heap.size, 2, none⟩ = some (.slice none 0 0) := (blk_cell t7.res 2).trans rfl
          have s0 := blk_free t7.res 0; have s1 := blk_free t7.res 1; have s2 := blk_free t7.res 2
          have E3 := Lib.hid t7.end3
          clear k7 t7
          go_wp2
          exact bodyPost_ret (v := .tuple #[.agg #[.bool _, .int .u64 (N : Int), .slice AD data.length cD], .int .i64 0]) (by simp [results, Tryz.results85, go_sem, r0, r1, r2]) rfl (HYES.out _ _ HQ.out (by rw [← HE.out]; exact E3.out _ _ _))
        · subst h2
          have g1I : decide ((8 : Int) ≤ (L.length : Int) - (n : Int)) = true := by simp; omega
          clear h1 hhd2
          have HQ := Lib.hid e0
          clear e0 hyb
          go_wp2
          go_quiet (fail)
          generalize hwq : wr.drewN _ = wq
          have kq : Kp No wr wq := by rw [← hwq]; exact (Kp.refl _ _).drewN _
          clear hwq
          have T6' := Lib.hid (T.out.no kq); have R6 := Lib.hid ((R.out.kpNo kq).here)
          have o0 : wq.cell? ⟨w3.heap.size, 0, none⟩ = some (.bool _) := (blk_cell T6'.out.pkt 0).trans rfl
          have o1 : wq.cell? ⟨w3.heap.size, 1, none⟩ = some (.int .u64 (N : Int)) := (blk_cell T6'.out.pkt 1).trans rfl
          have o2 : wq.cell? ⟨w3.heap.size, 2, none⟩ = some (.slice AD data.length cD) := (blk_cell T6'.out.pkt 2).trans rfl
          clear kq
          go_wp2_with fail
          refine (rlay_any T6'.out.own.rd _ N (Nat.lt_succ_of_lt HCL.out) DX.out).mono ?_
          rintro e w6 ⟨v6, rfl, k6⟩
          rw [HBD.out]
          rw [HYY.out] at k6
          obtain ⟨A6', c6, rfl⟩ := k6.own.rd.shape
          have T9 := Lib.hid (T6'.out.no k6.kp); have R9 := Lib.hid ((R6.out.kpNo k6.kp).here); have K6 := Lib.hid k6
          clear k6
          go_wp2_with fail
          refine (qend_any R9.out hL9 HN.out).mono ?_
          rintro e w7 ⟨rfl, k7⟩
          rw [HS.out]
          have t7 := T9.out.no k7
          have hst1 := (K6.out.own.rd.kpNo k7).str
          have hst2 := (H.out.kpNo t7.kp).str
          have p0 : w7.cell? ⟨w3.heap.size, 0, none⟩ = some (.bool _) := (blk_cell t7.pkt 0).trans rfl
          have p1 : w7.cell? ⟨w3.heap.size, 1, none⟩ = some (.int .u64 (N : Int)) := (blk_cell t7.pkt 1).trans rfl
          have p2 : w7.cell? ⟨w3.heap.size, 2, none⟩ = some (.slice AD data.length cD) := (blk_cell t7.pkt 2).trans rfl
          have r0 : w7.cell? ⟨w.heap.size, 0, none⟩ = some (.bool false) := (blk_cell t7.res 0).trans rfl
          have r1 : w7.cell? ⟨w.heap.size, 1, none⟩ = some (.int .u64 0) := (blk_cell t7.res 1).trans rfl
          have r2 : w7.cell? ⟨w.heap.size, 2, none⟩ = some (.slice none 0 0) := (blk_cell t7.res 2).trans rfl
          have s0 := blk_free t7.res 0; have s1 := blk_free t7.res 1; have s2 := blk_free t7.res 2
          have E3 := Lib.hid t7.end3
          clear k7 t7
          go_wp2
          exact bodyPost_ret (v := .tuple #[.agg #[.bool false, .int .u64 0, .slice none 0 0], .int .i64 140]) (by simp [results, Tryz.results85, go_sem, r0, r1, r2]) rfl (HNO.out _ HQ.out (E3.out _ _ _).kp)
        · subst h2
          have g1I : decide ((8 : Int) ≤ (L.length : Int) - (n : Int)) = true := by simp; omega
          clear h1 hhd2
          have HQ := Lib.hid e0
          clear e0 hyb
          go_wp2
          go_quiet (fail)
          generalize hwq : wr.drewN _ = wq
          have kq : Kp No wr wq := by rw [← hwq]; exact (Kp.refl _ _).drewN _
          clear hwq
          have T6' := Lib.hid (T.out.no kq); have R6 := Lib.hid ((R.out.kpNo kq).here)
          have o0 : wq.cell? ⟨w3.heap.size, 0, none⟩ = some (.bool _) := (blk_cell T6'.out.pkt 0).trans rfl
          have o1 : wq.cell? ⟨w3.heap.size, 1, none⟩ = some (.int .u64 (N : Int)) := (blk_cell T6'.out.pkt 1).trans rfl
          have o2 : wq.cell? ⟨w3.heap.size, 2, none⟩ = some (.slice AD data.length cD) := (blk_cell T6'.out.pkt 2).trans rfl
          clear kq
          go_wp2_with fail
          refine (rlay_any T6'.out.own.rd _ N (Nat.lt_succ_of_lt HCL.out) DX.out).mono ?_
          rintro e w6 ⟨v6, rfl, k6⟩
          rw [HBD.out]
          rw [HYY.out] at k6
          obtain ⟨A6', c6, rfl⟩ := k6.own.rd.shape
          have T9 := Lib.hid (T6'.out.no k6.kp); have R9 := Lib.hid ((R6.out.kpNo k6.kp).here); have K6 := Lib.hid k6
          clear k6
          go_wp2_with fail
          refine (qend_any R9.out hL9 HN.out).mono ?_
          rintro e w7 ⟨rfl, k7⟩
          rw [HS.out]
          have t7 := T9.out.no k7
          have hst1 := (K6.out.own.rd.kpNo k7).str
          have hst2 := (H.out.kpNo t7.kp).str
          have p0 : w7.cell? ⟨w3.heap.size, 0, none⟩ = some (.bool _) := (blk_cell t7.pkt 0).trans rfl
          have p1 : w7.cell? ⟨w3.heap.size, 1, none⟩ = some (.int .u64 (N : Int)) := (blk_cell t7.pkt 1).trans rfl
          have p2 : w7.cell? ⟨w3.heap.size, 2, none⟩ = some (.slice AD data.length cD) := (blk_cell t7.pkt 2).trans rfl
          have r0 : w7.cell? ⟨w.heap.size, 0, none⟩ = some (.bool false) := (blk_cell t7.res 0).trans rfl
          have r1 : w7.cell? ⟨w.heap.size, 1, none⟩ = some (.int .u64 0) := (blk_cell t7.res 1).trans rfl
          have r2 : w7.cell? ⟨w.heap.size, 2, none⟩ = some (.slice none 0 0) := (blk_cell t7.res 2).trans rfl
          have s0 := blk_free t7.res 0; have s1 := blk_free t7.res 1; have s2 := blk_free t7.res 2
          have E3 := Lib.hid t7.end3
          clear k7 t7
          go_wp2
          exact bodyPost_ret (v := .tuple #[.agg #[.bool false, .int .u64 0, .slice none 0 0], .int .i64 140]) (by simp [results, Tryz.results85, go_sem, r0, r1, r2]) rfl (HNO.out _ HQ.out (E3.out _ _ _).kp)
      · rcases hres with ⟨e0, e1, e2, e3, e4⟩ | ⟨e0, e1⟩ | ⟨e0, e1, e2⟩
        · subst h2
          have g1I : decide ((8 : Int) ≤ (L.length : Int) - (n : Int)) = true := by simp; omega
          have g3I : (f' == 0) = false := by simpa using h3
          clear h1 h3 hhd2
          have HQ := Lib.hid e0
          have HE := Lib.hid e4
          rw [e3] at hyb
          clear e0 e3 e4
          go_wp2
          go_quiet (fail)
          generalize hwq : wr.drewN _ = wq
          have kq : Kp No wr wq := by rw [← hwq]; exact (Kp.refl _ _).drewN _
          clear hwq
          have T6' := Lib.hid (T.out.no kq); have R6 := Lib.hid ((R.out.kpNo kq).here)
          have o0 : wq.cell? ⟨w3.heap.size, 0, none⟩ = some (.bool _) := (blk_cell T6'.out.pkt 0).trans rfl
          have o1 : wq.cell? ⟨w3.heap.size, 1, none⟩ = some (.int .u64 (N : Int)) := (blk_cell T6'.out.pkt 1).trans rfl
          have o2 : wq.cell? ⟨w3.heap.size, 2, none⟩ = some (.slice AD data.length cD) := (blk_cell T6'.out.pkt 2).trans rfl
          clear kq
          go_wp2_with fail
          refine (rlay_any T6'.out.own.rd _ N (Nat.lt_succ_of_lt HCL.out) DX.out).mono ?_
          rintro e w6 ⟨v6, rfl, k6⟩
          rw [HBD.out]
          rw [HYY.out] at k6
          obtain ⟨A6', c6, rfl⟩ := k6.own.rd.shape
          have T9 := Lib.hid (T6'.out.no k6.kp); have R9 := Lib.hid ((R6.out.kpNo k6.kp).here); have K6 := Lib.hid k6
          clear k6
          go_wp2_with fail
          refine (qend_any R9.out hL9 HN.out).mono ?_
          rintro e w7 ⟨rfl, k7⟩
          rw [HS.out]
          have t7 := T9.out.no k7
          have hst1 := (K6.out.own.rd.kpNo k7).str
          have hst2 := (H.out.kpNo t7.kp).str
          have p0 : w7.cell? ⟨w3.heap.size, 0, none⟩ = some (.bool _) := (blk_cell t7.pkt 0).trans rfl
          have p1 : w7.cell? ⟨w3.heap.size, 1, none⟩ = some (.int .u64 (N : Int)) := (blk_cell t7.pkt 1).trans rfl
          have p2 : w7.cell? ⟨w3.heap.size, 2, none⟩ = some (.slice AD data.length cD) := (blk_cell t7.pkt 2).trans rfl
          have r0 : w7.cell? ⟨w.heap.size, 0, none⟩ = some (.bool false) := (blk_cell t7.res 0).trans rfl
          have r1 : w7.cell? ⟨w.heap.size, 1, none⟩ = some (.int .u64 0) := (blk_cell t7.res 1).trans rfl
          have r2 : w7.cell? ⟨w.heap.size, 2, none⟩ = some (.slice none 0 0) := (blk_cell t7.res 2).trans rfl
          have s0 := blk_free t7.res 0; have s1 := blk_free t7.res 1; have s2 := blk_free t7.res 2
          have E3 := Lib.hid t7.end3
          clear k7 t7
          go_wp2
          exact bodyPost_ret (v := .tuple #[.agg #[.bool _, .int .u64 (N : Int), .slice AD data.length cD], .int .i64 0]) (by simp [results, Tryz.results85, go_sem, r0, r1, r2]) rfl (HYES.out _ _ HQ.out (by rw [← HE.out]; exact E3.out _ _ _))
        · subst h2
          have g1I : decide ((8 : Int) ≤ (L.length : Int) - (n : Int)) = true := by simp; omega
          have g3I : (f' == 0) = false := by simpa using h3
          clear h1 h3 hhd2
          have HQ := Lib.hid e0
          clear e0 hyb
          go_wp2
          go_quiet (fail)
          generalize hwq : wr.drewN _ = wq
          have kq : Kp No wr wq := by rw [← hwq]; exact (Kp.refl _ _).drewN _
          clear hwq
          have T6' := Lib.hid (T.out.no kq); have R6 := Lib.hid ((R.out.kpNo kq).here)
          have o0 : wq.cell? ⟨w3.heap.size, 0, none⟩ = some (.bool _) := (blk_cell T6'.out.pkt 0).trans rfl
          have o1 : wq.cell? ⟨w3.heap.size, 1, none⟩ = some (.int .u64 (N : Int)) := (blk_cell T6'.out.pkt 1).trans rfl
          have o2 : wq.cell? ⟨w3.heap.size, 2, none⟩ = some (.slice AD data.length cD) := (blk_cell T6'.out.pkt 2).trans rfl
          clear kq
          go_wp2_with fail
          refine (rlay_any T6'.out.own.rd _ N (Nat.lt_succ_of_lt HCL.out) DX.out).mono ?_
          rintro e w6 ⟨v6, rfl, k6⟩
          rw [HBD.out]
          rw [HYY.out] at k6
          obtain ⟨A6', c6, rfl⟩ := k6.own.rd.shape
          have T9 := Lib.hid (T6'.out.no k6.kp); have R9 := Lib.hid ((R6.out.kpNo k6.kp).here); have K6 := Lib.hid k6
          clear k6
          go_wp2_with fail
          refine (qend_any R9.out hL9 HN.out).mono ?_
          rintro e w7 ⟨rfl, k7⟩
          rw [HS.out]
          have t7 := T9.out.no k7
          have hst1 := (K6.out.own.rd.kpNo k7).str
          have hst2 := (H.out.kpNo t7.kp).str
          have p0 : w7.cell? ⟨w3.heap.size, 0, none⟩ = some (.bool _) := (blk_cell t7.pkt 0).trans rfl
          have p1 : w7.cell? ⟨w3.heap.size, 1, none⟩ = some (.int .u64 (N : Int)) := (blk_cell t7.pkt 1).trans rfl
          have p2 : w7.cell? ⟨w3.heap.size, 2, none⟩ = some (.slice AD data.length cD) := (blk_cell t7.pkt 2).trans rfl
          have r0 : w7.cell? ⟨w.heap.size, 0, none⟩ = some (.bool false) := (blk_cell t7.res 0).trans rfl
          have r1 : w7.cell? ⟨w.heap.size, 1, none⟩ = some (.int .u64 0) := (blk_cell t7.res 1).trans rfl
          have r2 : w7.cell? ⟨w.heap.size, 2, none⟩ = some (.slice none 0 0) := (blk_cell t7.res 2).trans rfl
          have s0 := blk_free t7.res 0; have s1 := blk_free t7.res 1; have s2 := blk_free t7.res 2
          have E3 := Lib.hid t7.end3
          clear k7 t7
          go_wp2
          exact bodyPost_ret (v := .tuple #[.agg #[.bool false, .int .u64 0, .slice none 0 0], .int .i64 140]) (by simp [results, Tryz.results85, go_sem, r0, r1, r2]) rfl (HNO.out _ HQ.out (E3.out _ _ _).kp)
        · subst h2
          have g1I : decide ((8 : Int) ≤ (L.length : Int) - (n : Int)) = true := by simp; omega
          have g3I : (f' == 0) = false := by simpa using h3
          clear h1 h3 hhd2
          have HQ := Lib.hid e0
          clear e0 hyb
          go_wp2
          go_quiet (fail)
          generalize hwq : wr.drewN _ = wq
          have kq : Kp No wr wq := by rw [← hwq]; exact (Kp.refl _ _).drewN _
          clear hwq
          have T6' := Lib.hid (T.out.no kq); have R6 := Lib.hid ((R.out.kpNo kq).here)
          have o0 : wq.cell? ⟨w3.heap.size, 0, none⟩ = some (.bool _) := (blk_cell T6'.out.pkt 0).trans rfl
          have o1 : wq.cell? ⟨w3.heap.size, 1, none⟩ = some (.int .u64 (N : Int)) := (blk_cell T6'.out.pkt 1).trans rfl
          have o2 : wq.cell? ⟨w3.heap.size, 2, none⟩ = some (.slice AD data.length cD) := (blk_cell T6'.out.pkt 2).trans rfl
          clear kq
          go_wp2_with fail
          refine (rlay_any T6'.out.own.rd _ N (Nat.lt_succ_of_lt HCL.out) DX.out).mono ?_
          rintro e w6 ⟨v6, rfl, k6⟩
          rw [HBD.out]
          rw [HYY.out] at k6
          obtain ⟨A6', c6, rfl⟩ := k6.own.rd.shape
          have T9 := Lib.hid (T6'.out.no k6.kp); have R9 := Lib.hid ((R6.out.kpNo k6.kp).here); have K6 := Lib.hid k6
          clear k6
          go_wp2_with fail
          refine (qend_any R9.out hL9 HN.out).mono ?_
          rintro e w7 ⟨rfl, k7⟩
          rw [HS.out]
          have t7 := T9.out.no k7
          have hst1 := (K6.out.own.rd.kpNo k7).str
          have hst2 := (H.out.kpNo t7.kp).str
          have p0 : w7.cell? ⟨w3.heap.size, 0, none⟩ = some (.bool _) := (blk_cell t7.pkt 0).trans rfl
          have p1 : w7.cell? ⟨w3.heap.size, 1, none⟩ = some (.int .u64 (N : Int)) := (blk_cell t7.pkt 1).trans rfl
          have p2 : w7.cell? ⟨w3.heap.size, 2, none⟩ = some (.slice AD data.length cD) := (blk_cell t7.pkt 2).trans rfl
          have r0 : w7.cell? ⟨w.heap.size, 0, none⟩ = some (.bool false) := (blk_cell t7.res 0).trans rfl
          have r1 : w7.cell? ⟨w.heap.size, 1, none⟩ = some (.int .u64 0) := (blk_cell t7.res 1).trans rfl
          have r2 : w7.cell? ⟨w.heap.size, 2, none⟩ = some (.slice none 0 0) := (blk_cell t7.res 2).trans rfl
          have s0 := blk_free t7.res 0; have s1 := blk_free t7.res 1; have s2 := blk_free t7.res 2
          have E3 := Lib.hid t7.end3
          clear k7 t7
          go_wp2
          exact bodyPost_ret (v := .tuple #[.agg #[.bool false, .int .u64 0, .slice none 0 0], .int .i64 140]) (by simp [results, Tryz.results85, go_sem, r0, r1, r2]) rfl (HNO.out _ HQ.out (E3.out _ _ _).kp)

theorem rtake_any {w : World} {v : Value} {f : List Nat} (hv : Rd BK w v f) (hl : f.length ≤ 1000000) (hx : ∀ x ∈ f, x < 256) : Calls Tryz.prog 85 #[v] w (TakeR f w) := by
  by_cases h : isF f = true
  · exact rtake_yes hv hl hx h
  · exact rtake_no hv hl hx (by simpa using h)
end Go.Proofs.YtfpikgkbccgchaaGreatDoor

namespace Go.Proofs.YtfpikgkbccgchaaGreatDoor
set_option linter.unusedVariables false
set_option linter.unusedSimpArgs false
open Go.RowKit

/-- A sender: p points to it; the slice V has what it tells. -/
structure SndS (p : Nat) (told : Nat) (tells : Bool) (data : List Nat) (V : Value) (w : World) : Prop where
  blk : w.heap[p]? = some (.cells #[.int .u64 (told : Int), .bool tells, V] 187 (0, 0))
  own : Own BK 5 w V data
  ne : ∀ g, V.ownBlock = some g → g ≠ p
  big : told < 18446744073709551616
  ok : tells = true → told < 18446744073709551614 ∧ data.length ≤ 200
  byt : ∀ x ∈ data, x < 256
theorem SndS.far {S : Nat → Prop} {p told : Nat} {tells : Bool} {data : List Nat} {V : Value} {w w' : World} (h : SndS p told tells data V w) (hk : Kp S w w') (hp : ¬ S p) (hv : ∀ g, V.ownBlock = some g → ¬ S g) : SndS p told tells data V w' :=
  ⟨hk.blk h.blk hp, h.own.kp hk hv, h.ne, h.big, h.ok, h.byt⟩
theorem SndS.no {p told : Nat} {tells : Bool} {data : List Nat} {V : Value} {w w' : World} (h : SndS p told tells data V w) (hk : Kp No w w') : SndS p told tells data V w' := h.far hk (no_no _) fun _ _ => no_no _
theorem SndS.cells {p told : Nat} {tells : Bool} {data : List Nat} {V : Value} {w : World} (h : SndS p told tells data V w) : w.cell? ⟨p, 0, none⟩ = some (.int .u64 (told : Int)) ∧ w.cell? ⟨p, 1, none⟩ = some (.bool tells) ∧ w.cell? ⟨p, 2, none⟩ = some V ∧ w.frozen? ⟨p, 0, none⟩ = false ∧ w.frozen? ⟨p, 1, none⟩ = false ∧ w.frozen? ⟨p, 2, none⟩ = false :=
  ⟨(blk_cell h.blk 0).trans rfl, (blk_cell h.blk 1).trans rfl, (blk_cell h.blk 2).trans rfl, blk_free h.blk 0, blk_free h.blk 1, blk_free h.blk 2⟩

theorem newSnd_any (w : World) (told : Nat) (h : told < 18446744073709551616) (x : Int) (hx : x = told) : Calls Tryz.prog 79 #[.int .u64 x] w fun e w' => ∃ p, e = .returned (.pointer (some ⟨p, 0, none⟩)) ∧ SndS p told false [] (.slice none 0 0) w' ∧ Kp No w w' ∧ w.heap.size ≤ p ∧ p < w'.heap.size := by
  subst hx
  go_enter Tryz.func79, Tryz.ntmps79
  go_wp2
  go_ret
  exact ⟨w.heap.size, rfl, ⟨blk_new w _, Own.nil _ _ _, by simp [Value.ownBlock], h, fun e => by simp at e, fun x hx => by simp at hx⟩, (Kp.refl _ _).alloc _, Nat.le_refl _, by simp⟩

def tellE (told : Nat) (tells : Bool) (d : List Nat) : Int := if tells then 3 else if 200 < d.length ∨ 18446744073709551614 ≤ told then 4 else 0
def TellR (p told : Nat) (tells : Bool) (data : List Nat) (V : Value) (d : List Nat) (w : World) (e : Ending) (w' : World) : Prop :=
  e = .returned (.int .i64 (tellE told tells d)) ∧ Kp (fun k => k = p) w w' ∧ ∃ V', SndS p told (tells || decide (tellE told tells d = 0)) (if tellE told tells d = 0 then d else data) V' w' ∧ (∀ g, V'.ownBlock = some g → V.ownBlock = some g ∨ w.heap.size ≤ g)

set_option maxRecDepth 100000 in
theorem tell_any {w : World} {p told : Nat} {tells : Bool} {data : List Nat} {V v : Value} {d : List Nat} (h : SndS p told tells data V w) (hv : Rd BK w v d) (hd : d.length ≤ 1000000) (hx : ∀ x ∈ d, x < 256) :
    Calls Tryz.prog 112 #[.pointer (some ⟨p, 0, none⟩), v] w (TellR p told tells data V d w) := by
  obtain ⟨A, cap, rfl⟩ := hv.shape
  obtain ⟨c0, c1, c2, f0, f1, f2⟩ := h.cells
  have H := Lib.hid h; have HV := Lib.hid hv; have HX := Lib.hid hx
  have same : tellE told tells d ≠ 0 → ∀ w', w' = w → TellR p told tells data V d w (.returned (.int .i64 (tellE told tells d))) w' := by
    rintro hne w' rfl
    refine ⟨rfl, Kp.refl _ _, V, ?_, fun g hg => .inl hg⟩
    rw [if_neg hne, decide_eq_false hne, Bool.or_false]; exact h
  have SM := Lib.hid same
  clear h hv hx same
  cases tells
  · by_cases h1 : 200 < d.length
    · have he : tellE told false d = 4 := by unfold tellE; rw [if_neg (by decide), if_pos (.inl h1)]
      have h1I : (200 : Int) < (d.length : Int) := by omega
      have HE := Lib.hid he
      clear he h1
      go_enter Tryz.func112, Tryz.ntmps112
      go_wp2
      go_ret
      have q := SM.out (by rw [HE.out]; decide) w rfl
      rw [HE.out] at q; exact q
    · have h1I : ¬ (200 : Int) < (d.length : Int) := by omega
      by_cases h2 : 18446744073709551614 ≤ told
      · have he : tellE told false d = 4 := by unfold tellE; rw [if_neg (by decide), if_pos (.inr h2)]
        have h2I : (18446744073709551614 : Int) ≤ (told : Int) := by omega
        have HE := Lib.hid he
        clear he h1 h2
        go_enter Tryz.func112, Tryz.ntmps112
        go_wp2
        go_ret
        have q := SM.out (by rw [HE.out]; decide) w rfl
        rw [HE.out] at q; exact q
      · have he : tellE told false d = 0 := by unfold tellE; rw [if_neg (by decide), if_neg (fun h => by rcases h with h | h; exact h1 h; exact h2 h)]
        have h2I : ¬ (18446744073709551614 : Int) ≤ (told : Int) := by omega
        have HE := Lib.hid he; have H1 := Lib.hid h1; have H2 := Lib.hid h2
        clear he h1 h2
        go_enter Tryz.func112, Tryz.ntmps112
        go_wp2_with (at_builtin; refine wpl_append elB rfl (.const (.slice none 0 0)) (.tmp 26) rfl rfl rfl (l := []) (m := d) ?c1 ?c2 ?c3 ?c4 ?c5)
        case c1 => exact Own.nil _ _ _
        case c2 => exact HV.out
        case c3 => have q : d.length ≤ maxLen := (by unfold maxLen; omega); simpa using q
        case c4 => have q : d.length ≤ 140737488355328 := (by omega); simpa using q
        case c5 =>
          intro v' w' k1 k2 k3
          have q : NewS BK 5 w w' v' d := (NewS.nil BK 5 w).app (Kp.refl _ _) k1 k2 k3 (Nat.le_refl _)
          obtain ⟨A3, c3, rfl⟩ := q.own.rd.shape
          have Q := Lib.hid q
          have s1 := H.out.no q.kp
          obtain ⟨d0, d1, d2, g0, g1, g2⟩ := s1.cells
          have S1 := Lib.hid s1
          clear k1 k2 k3 q s1
          go_wp2
          go_ret
          have hne : ∀ g, (Value.slice A3 d.length c3).ownBlock = some g → g ≠ p := fun g hg => by
            have := Q.out.ge g hg
            have := lt_of_block H.out.blk
            omega
          have hk := (Kp.one (w := w') (p := p) 1 (.bool true)).trans (Kp.one (p := p) 2 (.slice A3 d.length c3))
          have b1 := (blk_set (blk_set S1.out.blk 1 (.bool true)) 2 (.slice A3 d.length c3)).trans rfl
          refine ⟨by rw [HE.out]; rfl, (Q.out.kp.mono (S2 := fun k => k = p) fun _ _ e => e.elim).trans hk, .slice A3 d.length c3, ?_, fun g hg => .inr (Q.out.ge g hg)⟩
          rw [if_pos HE.out, decide_eq_true HE.out, Bool.or_true]
          exact ⟨b1, Q.out.own.kp hk hne, hne, H.out.big, fun _ => ⟨by have := H2.out; omega, by have := H1.out; omega⟩, HX.out⟩
  · have he : tellE told true d = 3 := by unfold tellE; rw [if_pos rfl]
    have HE := Lib.hid he
    clear he
    go_enter Tryz.func112, Tryz.ntmps112
    go_wp2
    go_ret
    have q := SM.out (by rw [HE.out]; decide) w rfl
    rw [HE.out] at q; exact q
end Go.Proofs.YtfpikgkbccgchaaGreatDoor

namespace Go.Proofs.YtfpikgkbccgchaaGreatDoor
set_option linter.unusedVariables false
set_option linter.unusedSimpArgs false
open Go.RowKit

def pktL (told : Nat) (tells : Bool) (data : List Nat) : List Nat := if tells then layL false (told + 1) data else []
def PacketR (told : Nat) (tells : Bool) (data : List Nat) (w : World) (e : Ending) (w' : World) : Prop := ∃ v', e = .returned (.tuple #[v', .bool tells]) ∧ NewS BK 5 w w' v' (pktL told tells data)

set_option maxRecDepth 100000 in
theorem packet_any {w : World} {p told : Nat} {tells : Bool} {data : List Nat} {V : Value} (h : SndS p told tells data V w) :
    Calls Tryz.prog 113 #[.pointer (some ⟨p, 0, none⟩)] w (PacketR told tells data w) := by
  obtain ⟨c0, c1, c2, f0, f1, f2⟩ := h.cells
  obtain ⟨A, cap, rfl⟩ := h.own.rd.shape
  have H := Lib.hid h
  cases tells
  · clear h
    go_enter Tryz.func113, Tryz.ntmps113
    go_wp2
    go_ret2
    exact ⟨.slice none 0 0, rfl, NewS.nil _ _ _⟩
  · have hb := (h.ok rfl).1
    obtain ⟨n, hn⟩ : ∃ n, n = told + 1 := ⟨_, rfl⟩
    have e1 : (told : Int) + 1 = (n : Int) := by omega
    have e2 : IntKind.u64.wrap (n : Int) = (n : Int) := IntWalk.u64_in _ (by omega)
    have hn2 : n < 18446744073709551616 := by omega
    have HN := Lib.hid hn; have HN2 := Lib.hid hn2
    clear h hn hb hn2
    go_enter Tryz.func113, Tryz.ntmps113
    go_wp2
    go_region_law (go_simp; go_at_call 134; refine (lay_any (w := w.drew) H.out.own.rd false n HN2.out H.out.byt).mono ?_; rintro e w2 ⟨v2, rfl, k2⟩; obtain ⟨A2, cp2, rfl⟩ := k2.own.rd.shape; have K2 := Lib.hid k2; clear k2)
    all_goals
      go_wp2
      go_ret2
      exact ⟨.slice A2 (layL false n data).length cp2, rfl, by unfold pktL; rw [if_pos rfl, ← HN.out]; exact ⟨K2.out.own, K2.out.ge, K2.out.kp.ofDrew⟩⟩

theorem bnot_t {d : Bool} (h : true = !d) : d = false := by cases d <;> simp_all
theorem bnot_f {d : Bool} (h : false = !d) : d = true := by cases d <;> simp_all
/-- Is the thing heard by these bytes? -/
def heardB (told : Nat) (tells : Bool) (f : List Nat) : Bool := tells && takeOk f && tkH f && decide (tkN f = told + 1)
def SHearR (p told : Nat) (tells : Bool) (data : List Nat) (V : Value) (f : List Nat) (w : World) (e : Ending) (w' : World) : Prop :=
  e = .returned (.bool (heardB told tells f)) ∧ Kp (fun k => k = p) w w' ∧
    SndS p (if heardB told tells f then told + 1 else told) (tells && !heardB told tells f) (if heardB told tells f then [] else data) (if heardB told tells f then .slice none 0 0 else V) w'
theorem takeOk_E (f : List Nat) : (tkE f != 0) = !takeOk f := by unfold tkE; cases takeOk f <;> rfl
theorem tkN_lt (f : List Nat) : tkN f < 18446744073709551615 := by
  unfold tkN
  split
  · exact (tC_int _).2
  · decide

set_option maxHeartbeats 400000 in
set_option maxRecDepth 100000 in
theorem shear_any {w : World} {p told : Nat} {tells : Bool} {data : List Nat} {V v : Value} {f : List Nat} (h : SndS p told tells data V w) (hv : Rd BK w v f) (hl : f.length ≤ 1000000) (hx : ∀ x ∈ f, x < 256) :
    Calls Tryz.prog 106 #[.pointer (some ⟨p, 0, none⟩), v] w (SHearR p told tells data V f w) := by
  obtain ⟨A, cap, rfl⟩ := hv.shape
  have hpl := lt_of_block h.blk
  have hbig := h.big
  have H := Lib.hid h; have HV := Lib.hid hv; have HX := Lib.hid hx
  obtain ⟨hB, hhB⟩ : ∃ hB, hB = heardB told tells f := ⟨_, rfl⟩
  obtain ⟨m, hm⟩ : ∃ m, m = tkN f := ⟨_, rfl⟩
  obtain ⟨b, hb⟩ : ∃ b, b = tkH f := ⟨_, rfl⟩
  obtain ⟨ok, hok⟩ : ∃ ok, ok = takeOk f := ⟨_, rfl⟩
  obtain ⟨er, her⟩ : ∃ er, er = tkE f := ⟨_, rfl⟩
  have h1 : (er != 0) = !ok := by rw [her, hok]; exact takeOk_E f
  have h2 : hB = (tells && ok && b && decide (m = told + 1)) := by rw [hhB]; unfold heardB; rw [← hm, ← hb, ← hok]
  have hml : m < 18446744073709551615 := by rw [hm]; exact tkN_lt f
  obtain ⟨n, hn⟩ : ∃ n, n = told + 1 := ⟨_, rfl⟩
  have e1 : (told : Int) + 1 = (n : Int) := by omega
  have e2 : tells = true → IntKind.u64.wrap (n : Int) = (n : Int) := fun e => IntWalk.u64_in _ (by have := (h.ok e).1; omega)
  obtain ⟨ne, hne⟩ : ∃ ne, ne = ((m : Int) != (n : Int)) := ⟨_, rfl⟩
  have h3 : ne = !decide (m = told + 1) := by
    rw [hne, ← hn]
    by_cases hq : m = n
    · simp [hq]
    · have : (m : Int) ≠ (n : Int) := by omega
      simp [hq, this]
  have hneI := hne.symm
  have HM := Lib.hid hm; have HB := Lib.hid hb; have HER := Lib.hid her; have HHB := Lib.hid hhB
  have no : hB = false → ∀ w', Kp No w w' → SHearR p told tells data V f w (.returned (.bool false)) w' := by
    intro e w' hk
    refine ⟨by rw [← hhB, e], hk.mono fun _ _ e => e.elim, ?_⟩
    rw [← hhB, e]; simp only [Bool.not_false, Bool.and_true]; exact h.no hk
  have HNO := Lib.hid no
  have H2 := Lib.hid h2; have H3 := Lib.hid h3; have HN := Lib.hid hn; have HML := Lib.hid hml; have HBG := Lib.hid hbig
  clear h hv hx hm hb her hhB no h2 h3 hne hn hml hok
  have hcase : (tells = false) ∨ (tells = true ∧ ok = false) ∨ (tells = true ∧ ok = true ∧ b = false) ∨ (tells = true ∧ ok = true ∧ b = true ∧ ne = true) ∨ (tells = true ∧ ok = true ∧ b = true ∧ ne = false) := by
    cases tells <;> cases ok <;> cases b <;> cases ne <;> simp
  rcases hcase with rfl | ⟨rfl, rfl⟩ | ⟨rfl, rfl, rfl⟩ | ⟨rfl, rfl, rfl, rfl⟩ | ⟨rfl, rfl, rfl, rfl⟩
  all_goals
    try (replace e2 := e2 rfl)
    go_enter Tryz.func106, Tryz.ntmps106
    go_wp2_with fail
    refine (take_any HV.out hl HX.out).mono ?_
    rintro e w1 ⟨v1, rfl, k1⟩
    rw [← HM.out, ← HB.out, ← HER.out]
    obtain ⟨A1, cp1, rfl⟩ := k1.own.rd.shape
    have s1 := H.out.no k1.kp
    obtain ⟨c0, c1, c2, f0, f1, f2⟩ := s1.cells
    have K1 := Lib.hid k1; have S1 := Lib.hid s1
    have hpl1 : p < w1.heap.size := lt_of_block s1.blk
    clear k1 s1
    go_wp2
    go_quiet (fail)
    go_wp2
    first
      | (go_ret; exact HNO.out (by rw [H2.out]; rfl) _ ((K1.out.kp.alloc _).drewN _))
      | (go_ret; exact HNO.out (by rw [H2.out]; simp only [Bool.true_and]; exact bnot_t H3.out) _ ((K1.out.kp.alloc _).drewN _))
      | (go_ret
         have hB1 : hB = true := by rw [H2.out]; simp only [Bool.true_and]; exact bnot_f H3.out
         have hh : heardB told true f = true := by rw [← HHB.out]; exact hB1
         have hk := ((Kp.one (w := (w1.alloc (.cells #[.bool true, .int .u64 (m : Int), .slice A1 (tkD f).length cp1] 118)).drewN nq) (p := p) 1 (.bool false)).trans (Kp.one (p := p) 2 (.slice none 0 0))).trans (Kp.one (p := p) 0 (.int .u64 (n : Int)))
         have kk := ((K1.out.kp.alloc (.cells #[.bool true, .int .u64 (m : Int), .slice A1 (tkD f).length cp1] 118)).drewN nq)
         have bk := (blk_set (blk_set (blk_set (kk.blk H.out.blk (no_no _)) 1 (.bool false)) 2 (.slice none 0 0)) 0 (.int .u64 (n : Int))).trans rfl
         refine ⟨by rw [hh]; rfl, (kk.mono (S2 := fun k => k = p) fun _ _ e => e.elim).trans hk, ?_⟩
         rw [hh, if_pos rfl, if_pos rfl, if_pos rfl, ← HN.out]
         exact ⟨bk, Own.nil _ _ _, by simp [Value.ownBlock], by have := (H.out.ok rfl).1; have := HN.out; omega, fun e => by simp at e, fun x hx => by simp at hx⟩)
end Go.Proofs.YtfpikgkbccgchaaGreatDoor

namespace Go.Proofs.YtfpikgkbccgchaaGreatDoor
set_option linter.unusedVariables false
set_option linter.unusedSimpArgs false
open Go.RowKit

structure RcvS (p heard : Nat) (w : World) : Prop where
  blk : w.heap[p]? = some (.cells #[.int .u64 (heard : Int)] 185 (0, 0))
  big : heard < 18446744073709551616
theorem RcvS.far {S : Nat → Prop} {p heard : Nat} {w w' : World} (h : RcvS p heard w) (hk : Kp S w w') (hp : ¬ S p) : RcvS p heard w' := ⟨hk.blk h.blk hp, h.big⟩
theorem RcvS.no {p heard : Nat} {w w' : World} (h : RcvS p heard w) (hk : Kp No w w') : RcvS p heard w' := h.far hk (no_no _)

theorem newRcv_any (w : World) (heard : Nat) (h : heard < 18446744073709551616) (x : Int) (hx : x = heard) : Calls Tryz.prog 78 #[.int .u64 x] w fun e w' => ∃ p, e = .returned (.pointer (some ⟨p, 0, none⟩)) ∧ RcvS p heard w' ∧ Kp No w w' ∧ w.heap.size ≤ p ∧ p < w'.heap.size := by
  subst hx
  go_enter Tryz.func78, Tryz.ntmps78
  go_wp2
  go_ret
  exact ⟨w.heap.size, rfl, ⟨blk_new w _, h⟩, (Kp.refl _ _).alloc _, Nat.le_refl _, by simp⟩
/-- Does a packet count; is it new? -/
def nxt (heard : Nat) : Nat := (heard + 1) % 18446744073709551616
def ackB (heard : Nat) (f : List Nat) : Bool := takeOk f && !tkH f && decide (tkN f ≠ 0) && decide (tkN f ≤ nxt heard)
def freshB (heard : Nat) (f : List Nat) : Bool := ackB heard f && decide (tkN f = nxt heard)
theorem nxt_wrap (heard : Nat) : IntKind.u64.wrap ((heard : Int) + 1) = (nxt heard : Int) := by
  show ((heard : Int) + 1) % 18446744073709551616 = _
  unfold nxt
  omega
def RHearR (p heard : Nat) (f : List Nat) (w : World) (e : Ending) (w' : World) : Prop :=
  ∃ v1 v2, e = .returned (.tuple #[v1, .bool (freshB heard f), v2]) ∧ Kp (fun k => k = p) w w' ∧ RcvS p (if freshB heard f then nxt heard else heard) w' ∧
    Own BK 5 w' v1 (if freshB heard f then tkD f else []) ∧ Own BK 5 w' v2 (if ackB heard f then layL true (tkN f) [] else []) ∧ (∀ g, v1.ownBlock = some g → w.heap.size ≤ g) ∧ (∀ g, v2.ownBlock = some g → w.heap.size ≤ g)

set_option maxHeartbeats 400000 in
set_option maxRecDepth 100000 in
theorem rhear_any {w : World} {p heard : Nat} {v : Value} {f : List Nat} (h : RcvS p heard w) (hv : Rd BK w v f) (hl : f.length ≤ 1000000) (hx : ∀ x ∈ f, x < 256) :
    Calls Tryz.prog 107 #[.pointer (some ⟨p, 0, none⟩), v] w (RHearR p heard f w) := by
  obtain ⟨A, cap, rfl⟩ := hv.shape
  have hpl := lt_of_block h.blk
  have H := Lib.hid h; have HV := Lib.hid hv; have HX := Lib.hid hx
  obtain ⟨m, hm⟩ : ∃ m, m = tkN f := ⟨_, rfl⟩
  obtain ⟨b, hb⟩ : ∃ b, b = tkH f := ⟨_, rfl⟩
  obtain ⟨ok, hok⟩ : ∃ ok, ok = takeOk f := ⟨_, rfl⟩
  obtain ⟨er, her⟩ : ∃ er, er = tkE f := ⟨_, rfl⟩
  obtain ⟨n, hn⟩ : ∃ n, n = nxt heard := ⟨_, rfl⟩
  have h1 : (er != 0) = !ok := by rw [her, hok]; exact takeOk_E f
  have e2 : IntKind.u64.wrap ((heard : Int) + 1) = (n : Int) := by rw [hn]; exact nxt_wrap heard
  have hml : m < 18446744073709551615 := by rw [hm]; exact tkN_lt f
  obtain ⟨z, hz⟩ : ∃ z, z = decide (m = 0) := ⟨_, rfl⟩
  obtain ⟨gt, hgt⟩ : ∃ gt, gt = decide (n < m) := ⟨_, rfl⟩
  obtain ⟨ne, hne⟩ : ∃ ne, ne = !decide (m = n) := ⟨_, rfl⟩
  have z1 : ((m : Int) == 0) = z := by rw [hz]; by_cases q : m = 0 <;> simp [q]
  have g1 : decide ((n : Int) < (m : Int)) = gt := by rw [hgt]; by_cases q : n < m <;> simp [q]
  have g2 : decide (n < m) = gt := hgt.symm
  have n1 : ((m : Int) != (n : Int)) = ne := by
    rw [hne]
    by_cases q : m = n
    · simp [q]
    · have : (m : Int) ≠ (n : Int) := by omega
      simp [q, this]
  have hA : ackB heard f = (ok && !b && !z && !gt) := by
    unfold ackB; rw [← hm, ← hb, ← hok, hz, hgt, hn]
    by_cases q : m ≤ nxt heard
    · simp [q, show ¬ nxt heard < m by omega]
    · simp [q, show nxt heard < m by omega]
  have hF : freshB heard f = (ok && !b && !z && !gt && !ne) := by
    unfold freshB; rw [hA, ← hm, hne, ← hn]; simp
  have HA := Lib.hid hA; have HF := Lib.hid hF; have HM := Lib.hid hm; have HB := Lib.hid hb; have HER := Lib.hid her; have HN := Lib.hid hn; have HML := Lib.hid hml
  clear h hv hx hm hb hok her hn hz hgt hne hA hF hml
  have hcase : ok = false ∨ (ok = true ∧ b = true) ∨ (ok = true ∧ b = false ∧ z = true) ∨ (ok = true ∧ b = false ∧ z = false ∧ gt = true) ∨ (ok = true ∧ b = false ∧ z = false ∧ gt = false ∧ ne = true) ∨ (ok = true ∧ b = false ∧ z = false ∧ gt = false ∧ ne = false) := by
    cases ok <;> cases b <;> cases z <;> cases gt <;> cases ne <;> simp
  have no : ackB heard f = false → ∀ w', Kp No w w' → RHearR p heard f w (.returned (.tuple #[.slice none 0 0, .bool false, .slice none 0 0])) w' := by
    intro e w' hk
    have e' : freshB heard f = false := by unfold freshB; rw [e]; rfl
    exact ⟨.slice none 0 0, .slice none 0 0, by rw [e'], hk.mono fun _ _ e => e.elim, by rw [e']; exact H.out.no hk, by rw [e']; exact Own.nil _ _ _, by rw [e]; exact Own.nil _ _ _, by simp [Value.ownBlock], by simp [Value.ownBlock]⟩
  have HNO := Lib.hid no
  clear no
  rcases hcase with rfl | ⟨rfl, rfl⟩ | ⟨rfl, rfl, rfl⟩ | ⟨rfl, rfl, rfl, rfl⟩ | ⟨rfl, rfl, rfl, rfl, rfl⟩ | ⟨rfl, rfl, rfl, rfl, rfl⟩
  · go_enter Tryz.func107, Tryz.ntmps107
    go_wp2_with fail
    refine (take_any HV.out hl HX.out).mono ?_
    rintro e w1 ⟨v1, rfl, k1⟩
    rw [← HM.out, ← HB.out, ← HER.out]
    obtain ⟨A1, cp1, rfl⟩ := k1.own.rd.shape
    have s1 := H.out.no k1.kp
    have c0 : w1.cell? ⟨p, 0, none⟩ = some (.int .u64 (heard : Int)) := (blk_cell s1.blk 0).trans rfl
    have f0 := blk_free s1.blk 0
    have K1 := Lib.hid k1; have S1 := Lib.hid s1
    have hpl1 : p < w1.heap.size := lt_of_block s1.blk
    clear k1 s1
    go_wp2
    go_quiet (fail)
    go_wp2
    go_ret3
    exact HNO.out (by rw [HA.out]; rfl) _ ((K1.out.kp.alloc _).drewN _)
  · go_enter Tryz.func107, Tryz.ntmps107
    go_wp2_with fail
    refine (take_any HV.out hl HX.out).mono ?_
    rintro e w1 ⟨v1, rfl, k1⟩
    rw [← HM.out, ← HB.out, ← HER.out]
    obtain ⟨A1, cp1, rfl⟩ := k1.own.rd.shape
    have s1 := H.out.no k1.kp
    have c0 : w1.cell? ⟨p, 0, none⟩ = some (.int .u64 (heard : Int)) := (blk_cell s1.blk 0).trans rfl
    have f0 := blk_free s1.blk 0
    have K1 := Lib.hid k1; have S1 := Lib.hid s1
    have hpl1 : p < w1.heap.size := lt_of_block s1.blk
    clear k1 s1
    go_wp2
    go_quiet (fail)
    go_wp2
    go_ret3
    exact HNO.out (by rw [HA.out]; rfl) _ ((K1.out.kp.alloc _).drewN _)
  · go_enter Tryz.func107, Tryz.ntmps107
    go_wp2_with fail
    refine (take_any HV.out hl HX.out).mono ?_
    rintro e w1 ⟨v1, rfl, k1⟩
    rw [← HM.out, ← HB.out, ← HER.out]
    obtain ⟨A1, cp1, rfl⟩ := k1.own.rd.shape
    have s1 := H.out.no k1.kp
    have c0 : w1.cell? ⟨p, 0, none⟩ = some (.int .u64 (heard : Int)) := (blk_cell s1.blk 0).trans rfl
    have f0 := blk_free s1.blk 0
    have K1 := Lib.hid k1; have S1 := Lib.hid s1
    have hpl1 : p < w1.heap.size := lt_of_block s1.blk
    clear k1 s1
    go_wp2
    go_quiet (fail)
    go_wp2
    go_ret3
    exact HNO.out (by rw [HA.out]; rfl) _ ((K1.out.kp.alloc _).drewN _)
  · go_enter Tryz.func107, Tryz.ntmps107
    go_wp2_with fail
    refine (take_any HV.out hl HX.out).mono ?_
    rintro e w1 ⟨v1, rfl, k1⟩
    rw [← HM.out, ← HB.out, ← HER.out]
    obtain ⟨A1, cp1, rfl⟩ := k1.own.rd.shape
    have s1 := H.out.no k1.kp
    have c0 : w1.cell? ⟨p, 0, none⟩ = some (.int .u64 (heard : Int)) := (blk_cell s1.blk 0).trans rfl
    have f0 := blk_free s1.blk 0
    have K1 := Lib.hid k1; have S1 := Lib.hid s1
    have hpl1 : p < w1.heap.size := lt_of_block s1.blk
    clear k1 s1
    go_wp2
    go_quiet (fail)
    go_wp2
    go_ret3
    exact HNO.out (by rw [HA.out]; rfl) _ ((K1.out.kp.alloc _).drewN _)
  · go_enter Tryz.func107, Tryz.ntmps107
    go_wp2_with fail
    refine (take_any HV.out hl HX.out).mono ?_
    rintro e w1 ⟨v1, rfl, k1⟩
    rw [← HM.out, ← HB.out, ← HER.out]
    obtain ⟨A1, cp1, rfl⟩ := k1.own.rd.shape
    have s1 := H.out.no k1.kp
    have c0 : w1.cell? ⟨p, 0, none⟩ = some (.int .u64 (heard : Int)) := (blk_cell s1.blk 0).trans rfl
    have f0 := blk_free s1.blk 0
    have K1 := Lib.hid k1; have S1 := Lib.hid s1
    have hpl1 : p < w1.heap.size := lt_of_block s1.blk
    clear k1 s1
    go_wp2
    go_quiet (fail)
    obtain ⟨wq, hwq⟩ : ∃ wq, wq = (w1.alloc (.cells #[.bool false, .int .u64 (m : Int), .slice A1 (tkD f).length cp1] 118)).drewN nq := ⟨_, rfl⟩
    rw [← hwq]
    have kq : Kp No w1 wq := by rw [hwq]; exact ((Kp.refl _ _).alloc _).drewN _
    have bq : wq.heap[w1.heap.size]? = some (.cells #[.bool false, .int .u64 (m : Int), .slice A1 (tkD f).length cp1] 118 (0, 0)) := by rw [hwq]; exact blk_new w1 _
    clear hwq
    have d0 := kq.cellS c0 (no_no _)
    have d1 : wq.cell? ⟨w1.heap.size, 1, none⟩ = some (.int .u64 (m : Int)) := (blk_cell bq 1).trans rfl
    have KQ := Lib.hid kq; have BQ := Lib.hid bq
    clear kq bq
    go_wp2_with fail
    refine (lay_any (Rd.nil BK wq) true m (Nat.lt_succ_of_lt HML.out) (fun x hx => by simp at hx)).mono ?_
    rintro e w2 ⟨v2, rfl, k2⟩
    obtain ⟨A2, cp2, rfl⟩ := k2.own.rd.shape
    have b2 := k2.kp.blk BQ.out (no_no _)
    have s2 := (S1.out.no KQ.out).no k2.kp
    have r0 : w2.cell? ⟨p, 0, none⟩ = some (.int .u64 (heard : Int)) := (blk_cell s2.blk 0).trans rfl
    have r1 := blk_free s2.blk 0
    have t1 : w2.cell? ⟨w1.heap.size, 1, none⟩ = some (.int .u64 (m : Int)) := (blk_cell b2 1).trans rfl
    have t2 : w2.cell? ⟨w1.heap.size, 2, none⟩ = some (.slice A1 (tkD f).length cp1) := (blk_cell b2 2).trans rfl
    have K2 := Lib.hid k2; have S2 := Lib.hid s2
    have hp2 : p < w1.heap.size := hpl1
    clear k2 s2 b2
    go_wp2
    go_quiet (fail)
    go_wp2
    have hA : ackB heard f = true := by rw [HA.out]; rfl
    have hF : freshB heard f = false := by rw [HF.out]; rfl
    have kk : Kp No w2 (w2.drewN nq) := (Kp.refl _ _).drewN _
    have kw := ((K1.out.kp.trans KQ.out).trans K2.out.kp).trans kk
    go_ret3
    refine ⟨.slice none 0 0, .slice A2 (layL true m []).length cp2, by rw [hF]; rfl, kw.mono fun _ _ e => e.elim, ?_, ?_, ?_, by simp [Value.ownBlock], fun g hg => Nat.le_trans (K1.out.kp.trans KQ.out).size (K2.out.ge g hg)⟩
    · rw [hF]; exact S2.out.no kk
    · rw [hF]; exact Own.nil _ _ _
    · rw [hA, if_pos rfl, ← HM.out]; exact K2.out.own.kpNo kk
  · go_enter Tryz.func107, Tryz.ntmps107
    go_wp2_with fail
    refine (take_any HV.out hl HX.out).mono ?_
    rintro e w1 ⟨v1, rfl, k1⟩
    rw [← HM.out, ← HB.out, ← HER.out]
    obtain ⟨A1, cp1, rfl⟩ := k1.own.rd.shape
    have s1 := H.out.no k1.kp
    have c0 : w1.cell? ⟨p, 0, none⟩ = some (.int .u64 (heard : Int)) := (blk_cell s1.blk 0).trans rfl
    have f0 := blk_free s1.blk 0
    have K1 := Lib.hid k1; have S1 := Lib.hid s1
    have hpl1 : p < w1.heap.size := lt_of_block s1.blk
    clear k1 s1
    go_wp2
    go_quiet (fail)
    obtain ⟨wq, hwq⟩ : ∃ wq, wq = (w1.alloc (.cells #[.bool false, .int .u64 (m : Int), .slice A1 (tkD f).length cp1] 118)).drewN nq := ⟨_, rfl⟩
    rw [← hwq]
    have kq : Kp No w1 wq := by rw [hwq]; exact ((Kp.refl _ _).alloc _).drewN _
    have bq : wq.heap[w1.heap.size]? = some (.cells #[.bool false, .int .u64 (m : Int), .slice A1 (tkD f).length cp1] 118 (0, 0)) := by rw [hwq]; exact blk_new w1 _
    clear hwq
    have d0 := kq.cellS c0 (no_no _)
    have d1 : wq.cell? ⟨w1.heap.size, 1, none⟩ = some (.int .u64 (m : Int)) := (blk_cell bq 1).trans rfl
    have KQ := Lib.hid kq; have BQ := Lib.hid bq
    clear kq bq
    go_wp2_with fail
    refine (lay_any (Rd.nil BK wq) true m (Nat.lt_succ_of_lt HML.out) (fun x hx => by simp at hx)).mono ?_
    rintro e w2 ⟨v2, rfl, k2⟩
    obtain ⟨A2, cp2, rfl⟩ := k2.own.rd.shape
    have b2 := k2.kp.blk BQ.out (no_no _)
    have s2 := (S1.out.no KQ.out).no k2.kp
    have r0 : w2.cell? ⟨p, 0, none⟩ = some (.int .u64 (heard : Int)) := (blk_cell s2.blk 0).trans rfl
    have r1 := blk_free s2.blk 0
    have t1 : w2.cell? ⟨w1.heap.size, 1, none⟩ = some (.int .u64 (m : Int)) := (blk_cell b2 1).trans rfl
    have t2 : w2.cell? ⟨w1.heap.size, 2, none⟩ = some (.slice A1 (tkD f).length cp1) := (blk_cell b2 2).trans rfl
    have K2 := Lib.hid k2; have S2 := Lib.hid s2
    have hp2 : p < w1.heap.size := hpl1
    clear k2 s2 b2
    go_wp2
    go_quiet (fail)
    go_wp2
    have hA : ackB heard f = true := by rw [HA.out]; rfl
    have hF : freshB heard f = true := by rw [HF.out]; rfl
    have kk : Kp No w2 (w2.drewN nq) := (Kp.refl _ _).drewN _
    have kw := ((K1.out.kp.trans KQ.out).trans K2.out.kp).trans kk
    have k1 := Kp.one (w := w2.drewN nq) (p := p) 0 (.int .u64 (n : Int))
    have hnx : n < 18446744073709551616 := by rw [HN.out]; exact Nat.mod_lt _ (by decide)
    have hpw : p < w.heap.size := hpl
    go_ret3
    refine ⟨.slice A1 (tkD f).length cp1, .slice A2 (layL true m []).length cp2, by rw [hF]; rfl, (kw.mono (S2 := fun k => k = p) fun _ _ e => e.elim).trans k1, ?_, ?_, ?_, fun g hg => K1.out.ge g hg, fun g hg => Nat.le_trans (K1.out.kp.trans KQ.out).size (K2.out.ge g hg)⟩
    · rw [hF, if_pos rfl, ← HN.out]; exact ⟨(blk_set (S2.out.no kk).blk 0 _).trans rfl, hnx⟩
    · rw [hF, if_pos rfl]; exact (((K1.out.own.kpNo KQ.out).kpNo K2.out.kp).kpNo kk).kp k1 fun g hg e => by have e : g = p := e; have := K1.out.ge g hg; omega
    · rw [hA, if_pos rfl, ← HM.out]; exact (K2.out.own.kpNo kk).kp k1 fun g hg e => by have e : g = p := e; have := Nat.le_trans (K1.out.kp.trans KQ.out).size (K2.out.ge g hg); omega
end Go.Proofs.YtfpikgkbccgchaaGreatDoor

namespace Go.Proofs.YtfpikgkbccgchaaGreatDoor
set_option linter.unusedVariables false
set_option linter.unusedSimpArgs false
open Go.RowKit
theorem own : ownKnob Tryz.prog.godebug = none := by kernel_rfl
theorem laid : laidOutB Tryz.prog = true := by kernel_rfl
def LawR (w : World) (e : Ending) (w' : World) : Prop := e = .returned (.bool true) ∧ Kp No w w'
end Go.Proofs.YtfpikgkbccgchaaGreatDoor

namespace Go.Proofs.YtfpikgkbccgchaaGreatDoor
set_option linter.unusedVariables false
set_option linter.unusedSimpArgs false
open Go.RowKit

/-- What was laid is taken. -/
structure LaidP (h : Bool) (n : Nat) (d f : List Nat) : Prop where
  ok : takeOk f = true
  h : tkH f = h
  n : tkN f = n
  d : tkD f = d
  e : tkE f = 0
theorem layBad_good {h : Bool} {n : Nat} {d : List Nat} (hb : layBad h n d = 0) : d.length ≤ 200 ∧ n ≠ 18446744073709551615 ∧ (h = true → d = []) := by
  rcases layBad_cases h n d with ⟨_, e⟩ | ⟨_, _, e⟩ | ⟨_, _, _, _, e⟩ | ⟨a, b, c, e⟩
  · rw [e] at hb; exact absurd hb (by decide)
  · rw [e] at hb; exact absurd hb (by decide)
  · rw [e] at hb; exact absurd hb (by decide)
  · exact ⟨a, b, c⟩
theorem laid_p {h : Bool} {n : Nat} {d : List Nat} (hb : layBad h n d = 0) (hn : n < 18446744073709551616) (hd : ∀ x ∈ d, x < 256) : LaidP h n d (layL h n d) := by
  obtain ⟨c1, c2, c3⟩ := layBad_good hb
  have hl : layL h n d = frameP (packB (layBits h n d)) := by unfold layL; rw [if_pos hb]
  have hpl : (packB (layBits h n d)).length ≤ 1000 := by rw [packB_len]; have := layBits_len h n d (by omega) c1; omega
  obtain ⟨t1, t2, t3, t4⟩ := take_lay h n d hd hb hn
  have ho : takeOk (layL h n d) = true := by unfold takeOk; rw [hl, isF_frameP _ hpl, midP_frameP, t1]; rfl
  have hm : midP (layL h n d) = packB (layBits h n d) := by rw [hl, midP_frameP]
  exact ⟨ho, by unfold tkH; rw [ho, hm, t2]; rfl, by unfold tkN; rw [ho, hm, if_pos rfl, t3], by unfold tkD; rw [ho, hm, if_pos rfl, t4], by unfold tkE; rw [ho]; rfl⟩
theorem layL_lt (h : Bool) (n : Nat) (d : List Nat) : ∀ x ∈ layL h n d, x < 256 := by
  unfold layL
  split
  · exact frameP_lt _ (packB_lt _)
  · intro x hx; simp at hx
theorem layL_len (h : Bool) (n : Nat) (d : List Nat) (hn : n < 18446744073709551616) : (layL h n d).length ≤ 1004 := by
  unfold layL
  split
  · rename_i hb
    obtain ⟨c1, c2, c3⟩ := layBad_good hb
    rw [frameP_len, packB_len]
    have := layBits_len h n d (by omega) c1
    omega
  · simp
theorem lay_f_ok (n : Nat) (d : List Nat) (hn : n < 18446744073709551615) (hd : d.length ≤ 200) : layBad false n d = 0 := by
  unfold layBad; rw [if_neg (fun h => by rcases h with h | h <;> omega), if_neg (fun h => by cases h.1)]
theorem lay_t_ok (n : Nat) (hn : n < 18446744073709551615) : layBad true n [] = 0 := by
  unfold layBad; rw [if_neg (fun h => by rcases h with h | h; simp at h; omega), if_neg (fun h => h.2 rfl)]

/-- A packet that is laid comes to a receiver. -/
theorem ack_laid (heard n : Nat) (d : List Nat) (hn : n < 18446744073709551615) (hd : d.length ≤ 200) (hx : ∀ x ∈ d, x < 256) :
    ackB heard (layL false n d) = (decide (n ≠ 0) && decide (n ≤ nxt heard)) ∧ freshB heard (layL false n d) = (decide (n ≠ 0) && decide (n = nxt heard)) ∧ tkN (layL false n d) = n ∧ tkD (layL false n d) = d := by
  have q := laid_p (lay_f_ok n d hn hd) (by omega) hx
  have ha : ackB heard (layL false n d) = (decide (n ≠ 0) && decide (n ≤ nxt heard)) := by unfold ackB; rw [q.ok, q.h, q.n]; simp
  refine ⟨ha, ?_, q.n, q.d⟩
  unfold freshB
  rw [ha, q.n]
  by_cases e : n = nxt heard
  · simp [e]
  · simp [e]
theorem heard_laid (told n : Nat) (tells : Bool) (hn : n < 18446744073709551615) : heardB told tells (layL true n []) = (tells && decide (n = told + 1)) := by
  have q := laid_p (lay_t_ok n hn) (by omega) (fun x hx => by simp at hx)
  unfold heardB
  rw [q.ok, q.h, q.n]; simp
theorem layT_pos (n : Nat) (hn : n < 18446744073709551615) : 0 < (layL true n []).length := by
  unfold layL
  rw [if_pos (lay_t_ok n hn), frameP_len]; omega
end Go.Proofs.YtfpikgkbccgchaaGreatDoor
