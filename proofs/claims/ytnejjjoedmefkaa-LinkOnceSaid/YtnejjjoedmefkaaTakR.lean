/- carfaxref14.Take: the walk. -/
import Derived.Test.YtnejjjoedmefkaaTakW
import Derived.Test.YtnejjjoedmefkaaRefJ
import Derived.Test.YtnejjjoedmefkaaFrmQ
namespace Go.Proofs.Ytnejjjoedmefkaa
set_option linter.unusedVariables false
set_option linter.unusedSimpArgs false
open Go.RowKit

theorem take_any {w : World} {v : Value} {f : List Nat} (hv : Rd BK w v f) (hl : f.length ≤ 1000000) (hx : ∀ x ∈ f, x < 256) : Calls Try.prog 13 #[v] w (TakeR f w) := by
  by_cases h : isF f = true
  · exact take_yes hv hl hx h
  · exact take_no hv hl hx (by simpa using h)

/-- What the document's loop has read. -/
structure TqD (L : List Bool) (data : List Nat) (n : Nat) (f : Int) : Prop where
  le : n ≤ L.length
  ok : (tF L = 0 ∧ f = 0 ∧ data = dataP L (tN L) data.length ∧ n = tN L + 8 * data.length) ∨ (tF L ≠ 0 ∧ f = tF L ∧ data = [] ∧ n = tN L)
theorem TqD.start (L : List Bool) (h : tN L ≤ L.length) : TqD L [] (tN L) (tF L) := ⟨h, by
  by_cases hf : tF L = 0
  · exact .inl ⟨hf, hf, rfl, rfl⟩
  · exact .inr ⟨hf, rfl, rfl, rfl⟩⟩
theorem TqD.step {L : List Bool} {data : List Nat} {n : Nat} {f : Int} (h : TqD L data n f) (h8 : n + 8 ≤ L.length) (hf : f = 0) : TqD L (data ++ [rgetV L n f 8]) (rgetN L n f 8) (rgetF L n f 8) ∧ rgetV L n f 8 < 256 := by
  rcases h.ok with ⟨h1, h2, h3, h4⟩ | ⟨h1, h2, _⟩
  · subst h2
    obtain ⟨g1, g2, g3⟩ := rget_full h8
    rw [g1, g2, g3]
    refine ⟨⟨h8, .inl ⟨h1, rfl, ?_, ?_⟩⟩, bval8 _⟩
    · rw [List.length_append, List.length_singleton, dataP_succ, ← h3, ← h4]
    · rw [List.length_append, List.length_singleton]; omega
  · exact absurd (h2.symm.trans hf) h1
theorem TqD.len {L : List Bool} {data : List Nat} {n : Nat} {f : Int} (h : TqD L data n f) : 8 * data.length ≤ L.length := by
  rcases h.ok with ⟨_, _, _, h4⟩ | ⟨_, _, h3, _⟩
  · have := h.le; omega
  · rw [h3]; simp
/-- At the end: just then all is well. -/
theorem TqD.fin {x : List Nat} {data : List Nat} {n : Nat} {f : Int} (hx : ∀ y ∈ x, y < 256) (h : TqD (unpackB x) data n f)
    (he : (unpackB x).length - n < 8 ∨ tH (unpackB x) = true ∨ f ≠ 0) (hd : tH (unpackB x) = true → data = []) :
    (tOk (unpackB x) = true → rendV (unpackB x) n f = 0 ∧ layBad (tH (unpackB x)) (tC (unpackB x)) data = 0 ∧ layL (tH (unpackB x)) (tC (unpackB x)) data = frameP x ∧ data = tD (unpackB x)) ∧
      (tOk (unpackB x) = false → rendV (unpackB x) n f ≠ 0 ∨ layBad (tH (unpackB x)) (tC (unpackB x)) data ≠ 0) := by
  have htb := take_back x hx
  generalize unpackB x = L at *
  rcases h.ok with ⟨h1, h2, h3, h4⟩ | ⟨h1, h2, _⟩
  · subst h2
    have hle := h.le
    have hk : data.length = tK L := by
      unfold tK
      by_cases hh : tH L = true
      · rw [if_pos hh, hd hh]; rfl
      · rw [if_neg hh]
        rcases he with he | he | he
        · omega
        · exact absurd he hh
        · exact absurd rfl he
    have hD : data = tD L := by unfold tD; rw [← hk]; exact h3
    constructor
    · intro hok
      obtain ⟨a, b, c⟩ := htb hok
      rw [← hD] at a b
      refine ⟨?_, a, by unfold layL; rw [if_pos a, b], hD⟩
      unfold tOk at hok
      simp only [Bool.and_eq_true, decide_eq_true_eq] at hok
      rw [h4, hk]; exact hok.2
    · intro hok
      by_cases hr : rendV L n 0 = 0
      · right
        unfold layBad
        have hK : 200 < data.length := by
          rcases Nat.lt_or_ge 200 data.length with h | h
          · exact h
          · exfalso
            unfold tOk at hok
            rw [h1, ← hk, ← h4, hr] at hok
            simp at hok
            omega
        rw [if_pos (.inl hK)]; decide
      · exact .inl hr
  · have hne : rendV L n f ≠ 0 := by unfold rendV; rw [h2, if_neg h1]; exact h1
    have : tOk L = false := by unfold tOk; rw [decide_eq_false h1]; rfl
    exact ⟨fun e => absurd (this.symm.trans e) (by decide), fun _ => .inl hne⟩

theorem TkP.rdq {w : World} {b : Nat} {h : Bool} {N : Int} {data : List Nat} {D : Value} {w1 w6 : World} {D' : Value} {p n : Nat} {V : Value} {L : List Bool} {f : Int} {w0 : World} (t : TkP w b h N data D w1) (k2 : Kp (fun k => D.ownBlock = some k) w1 w6) (a : AtQ w0 p V L n f w1) (hp : p < b) (hv : ∀ g, V.ownBlock = some g → g < b) : AtQ (w6.setCell ⟨b, 2, none⟩ D') p V L n f (w6.setCell ⟨b, 2, none⟩ D') := by
  have a6 := a.far k2 (fun e => by have := t.dn _ e; omega) fun g hg e => by have := t.dn _ e; have := hv g hg; omega
  exact (a6.far (Kp.one 2 D') (fun e => by have e : p = b := e; omega) fun g hg e => by have e : g = b := e; have := hv g hg; omega).here

def TqI (w : World) (b p : Nat) (V : Value) (x : List Nat) (h : Bool) (N : Int) (k : Nat) (wr : World) : Prop :=
  ∃ data D n f, TkP w b h N data D wr ∧ AtQ wr p V (unpackB x) n f wr ∧ data.length = k ∧ TqD (unpackB x) data n f ∧ (h = true → data = []) ∧ ∀ y ∈ data, y < 256

set_option maxRecDepth 100000 in
theorem rtake_no {w : World} {v : Value} {f : List Nat} (hv : Rd BK w v f) (hl : f.length ≤ 1000000) (hx : ∀ x ∈ f, x < 256) (hF : isF f = false) : Calls Try.prog 14 #[v] w (TakeR f w) := by
  obtain ⟨A, cap, rfl⟩ := hv.shape
  have H := Lib.hid hv; have HX := Lib.hid hx; have HF := Lib.hid hF
  have HR := Lib.hid (fun w' => takeR_none (f := f) (w := w) (w' := w') (by unfold takeOk; rw [hF]; rfl))
  clear hv hx hF
  go_enter Try.func14, Try.ntmps14
  go_wp2_with fail
  refine (ropen_any (H.out.alloc _) hl HX.out).mono ?_
  rintro e w1 ⟨v1, rfl, h1, h2⟩
  rw [HF.out]
  obtain ⟨A1, c1, rfl⟩ := h1.shape
  have K1 := Lib.hid (((Kp.refl No w).alloc _).trans h2)
  have B1 := h2.blk (blk_new w _) (no_no _)
  have f0 := blk_free B1 0; have f1 := blk_free B1 1; have f2 := blk_free B1 2
  have b0 : w1.cell? ⟨w.heap.size, 0, none⟩ = some (.bool false) := (blk_cell B1 0).trans rfl
  have b1 : w1.cell? ⟨w.heap.size, 1, none⟩ = some (.int .u64 0) := (blk_cell B1 1).trans rfl
  have b2 : w1.cell? ⟨w.heap.size, 2, none⟩ = some (.slice none 0 0) := (blk_cell B1 2).trans rfl
  clear h1 h2 B1
  go_wp2
  exact bodyPost_ret (v := .tuple #[.agg #[.bool false, .int .u64 0, .slice none 0 0], .int .i64 140]) (by simp [results, Try.results14, go_sem, b0, b1, b2]) rfl (HR.out _ (((K1.out.setCell (fun h => absurd h (Nat.lt_irrefl _)) _).setCell (fun h => absurd h (Nat.lt_irrefl _)) _).setCell (fun h => absurd h (Nat.lt_irrefl _)) _))

set_option maxHeartbeats 1000000 in
set_option maxRecDepth 100000 in
theorem rtake_yes {w : World} {v : Value} {f : List Nat} (hv : Rd BK w v f) (hl : f.length ≤ 1000000) (hx : ∀ x ∈ f, x < 256) (hF : isF f = true) : Calls Try.prog 14 #[v] w (TakeR f w) := by
  obtain ⟨A, cap, rfl⟩ := hv.shape
  obtain ⟨x, hxe⟩ : ∃ x, x = midP f := ⟨_, rfl⟩
  have ho : openL f = x := by unfold openL; rw [if_pos hF, hxe]
  have hfx : frameP x = f := by
    have h := hF
    unfold isF at h
    simp only [Bool.and_eq_true, decide_eq_true_eq] at h
    rw [hxe]; exact h.2
  have hxl : x.length ≤ 1000 := by
    have h := hF
    unfold isF at h
    simp only [Bool.and_eq_true, decide_eq_true_eq] at h
    rw [hxe]; unfold midP; rw [List.length_take, List.length_drop]; omega
  have hxx : ∀ y ∈ x, y < 256 := fun y hy => hx y (by rw [hxe] at hy; exact List.mem_of_mem_drop (List.mem_of_mem_take hy))
  obtain ⟨L, hL⟩ : ∃ L, L = unpackB x := ⟨_, rfl⟩
  have hLl : L.length = 8 * x.length := by rw [hL, unpackB_len2]
  have hL8 : L.length ≤ 8000 := by omega
  have hL9 : L.length ≤ 8000000 := by omega
  obtain ⟨hci, hcl⟩ := tC_int L
  obtain ⟨hb, hhb⟩ : ∃ hb, hb = tH L := ⟨_, rfl⟩
  obtain ⟨r, hr⟩ : ∃ r, r = rgetV L 0 0 1 := ⟨_, rfl⟩
  have hrb : ((r : Int) == 1) = hb := by
    rw [hhb]; unfold tH; rw [← hr]
    by_cases h : r = 1
    · simp [h]
    · rw [decide_eq_false h, beq_eq_false_iff_ne]; omega
  obtain ⟨N, hN⟩ : ∃ N, N = tC L := ⟨_, rfl⟩
  rw [← hN] at hci hcl
  have H := Lib.hid hv; have HX := Lib.hid hx; have HF := Lib.hid hF; have HO := Lib.hid ho; have HXX := Lib.hid hxx; have HL := Lib.hid hL; have HLL := Lib.hid hLl; have HCI := Lib.hid hci; have HHB := Lib.hid hhb; have HR := Lib.hid hr; have HNE := Lib.hid hN; have HCL := Lib.hid hcl; have HFX := Lib.hid hfx
  have HNO := Lib.hid (fun w' (h : tOk L = false) => takeR_none (f := f) (w := w) (w' := w') (by unfold takeOk; rw [← hxe, ← hL, h, hF]; rfl))
  have HYES := Lib.hid (fun w' v' (h : tOk L = true) (hn : NewS BK 5 w w' v' (tD L)) => takeR_some (f := f) (w := w) (w' := w') (v' := v') (by unfold takeOk; rw [← hxe, ← hL, h, hF]; rfl) (by rw [← hxe, ← hL]; exact hn))
  rw [← hxe, ← hL, ← hN, ← hhb] at HYES
  have HT1 := Lib.hid (tN1_le L); have HT2 := Lib.hid (tN_le L)
  clear hv hx hF ho hxe hxx hL hLl hci hcl hhb hr hN hfx
  go_enter Try.func14, Try.ntmps14
  go_wp2_with fail
  refine (ropen_any (H.out.alloc _) hl HX.out).mono ?_
  rintro e w1 ⟨v1, rfl, h1, h2⟩
  rw [HF.out]
  rw [HO.out] at h1
  obtain ⟨A1, c1, rfl⟩ := h1.shape
  have H1 := Lib.hid h1
  have RS := Lib.hid (h2.blk (blk_new w _) (no_no _))
  have K1 := Lib.hid (((Kp.refl No w).alloc _).trans h2)
  have S1 := Lib.hid (show w.heap.size < w1.heap.size by have := h2.size; simp at this; omega)
  clear h1 h2
  go_wp2_with fail
  refine (rof_any H1.out (Nat.le_trans hxl (by decide)) HXX.out).mono ?_
  rintro e w2 ⟨p, rfl, V, a2⟩
  rw [← HL.out] at a2
  have A2 := Lib.hid a2.at; have K2 := Lib.hid (K1.out.trans a2.kp)
  have P2 := Lib.hid (show w.heap.size < p by have := S1.out; have := a2.po; omega)
  have PL := Lib.hid (lt_of_block a2.blk)
  have VL := Lib.hid (fun g hg => a2.own.lt (g := g) hg)
  have RS2 := Lib.hid (a2.kp.blk RS.out (no_no _))
  clear a2
  go_wp2_with fail
  refine (qget_any A2.out hL9 (Nat.zero_le _) 1 (by decide) 1 rfl).mono ?_
  rintro e w3 ⟨rfl, a3⟩
  rw [← HR.out]
  have hs3 := a3.kp.size
  have S3 := Lib.hid hs3
  have RS3 := Lib.hid (a3.kp.blk RS2.out (fun e => by have e : w.heap.size = p := e; have := P2.out; omega))
  have K3 := Lib.hid (K2.out.newer a3.kp (Nat.le_of_lt P2.out))
  have A3 := Lib.hid (show AtQ w2 p V L (tN1 L) (tF1 L) w3 from a3)
  clear a3 hs3
  have B4 := Lib.hid (blk_new w3 (.cells #[.bool hb, .int .u64 0, .slice none 0 0] 25))
  have PW := Lib.hid (show p < w3.heap.size from Nat.lt_of_lt_of_le PL.out S3.out)
  go_wp2_with fail
  refine (qcount_any (A3.out.kpNo ((Kp.refl No w3).alloc _)).here hL9 HT1.out).mono ?_
  rintro e w5 ⟨rfl, a5⟩
  rw [HCI.out]
  have t5 : TkP w w3.heap.size hb 0 [] (.slice none 0 0) w5 :=
    ⟨a5.kp.blk B4.out (fun e => by have e : w3.heap.size = p := e; have := PW.out; omega), Own.nil _ _ _, a5.kp.blk (blk_alloc RS3.out _) (fun e => by have e : w.heap.size = p := e; have := P2.out; omega),
      (K3.out.alloc _).newer a5.kp (Nat.le_of_lt P2.out), Nat.lt_trans P2.out PW.out, fun g hg => by simp [Value.ownBlock] at hg⟩
  have c51 : w5.cell? ⟨w3.heap.size, 1, none⟩ = some (.int .u64 0) := (blk_cell t5.pkt 1).trans rfl
  have f51 := blk_free t5.pkt 1
  have T6 := Lib.hid (t5.setN (N : Int))
  have VB : Hid (∀ g, V.ownBlock = some g → g < w3.heap.size) := Lib.hid fun g hg => Nat.lt_of_lt_of_le (VL.out g hg) S3.out
  have A6 := Lib.hid ((a5.far (Kp.one (w := w5) (p := w3.heap.size) 1 (.int .u64 (N : Int))) (fun e => by have e : p = w3.heap.size := e; have := PW.out; omega) fun g hg e => by have e : g = w3.heap.size := e; have := VB.out g hg; omega).here)
  clear a5 t5
  go_wp2
  go_loopg [27] (x.length + 1) (fun g _ wr => ∃ k, g = x.length + 1 - k ∧ k ≤ x.length ∧ TqI w w3.heap.size p V x hb N k wr)
  case atStart => exact ⟨0, rfl, by omega, [], _, _, _, T6.out, by rw [← HL.out]; exact A6.out, rfl, by rw [← HL.out]; exact TqD.start L HT2.out, fun _ => rfl, fun y hy => by simp at hy⟩
  case round =>
    obtain ⟨k, hg, hk, data, D, n, f', htp, har, hdl, htd, hhd, hdx⟩ := hrel
    have htdx := htd
    rw [← HL.out] at htd har
    obtain ⟨AD, cD, rfl⟩ := htp.own.rd.shape
    obtain ⟨VA, VC, u0, u1, u2, _⟩ := har.parts
    have q0 : wr.cell? ⟨w3.heap.size, 0, none⟩ = some (.bool hb) := (blk_cell htp.pkt 0).trans rfl
    have q2 : wr.cell? ⟨w3.heap.size, 2, none⟩ = some (.slice AD data.length cD) := (blk_cell htp.pkt 2).trans rfl
    have hn := htd.le
    have T := Lib.hid htp; have R := Lib.hid har; have TD := Lib.hid htd; have DX := Lib.hid hdx; have HG := Lib.hid hg; have HDL := Lib.hid hdl; have HHD := Lib.hid hhd; have HN := Lib.hid hn
    have ew : IntKind.i64.wrap ((L.length : Int) - (n : Int)) = (L.length : Int) - (n : Int) := IntWalk.i64_in _ (by omega)
    by_cases hgo : n + 8 ≤ L.length ∧ hb = false ∧ f' = 0
    · obtain ⟨g1, g2, g3⟩ := hgo
      subst g2
      have g1I : decide ((8 : Int) ≤ (L.length : Int) - (n : Int)) = true := by simp; omega
      have g3I : (f' == 0) = true := by simp [g3]
      obtain ⟨htd2, hy256⟩ := htd.step g1 g3
      have hkx : data.length + 1 ≤ x.length := by have := htd2.len; rw [List.length_append, List.length_singleton] at this; have := HLL.out; omega
      obtain ⟨y, hy⟩ : ∃ y, y = rgetV L n f' 8 := ⟨_, rfl⟩
      rw [← hy] at htd2 hy256
      have HY := Lib.hid hy.symm
      have TD2 := Lib.hid htd2
      have hyw : IntKind.u8.wrap (y : Int) = (y : Int) := IntWalk.u8_in _ (by omega)
      have hk2 : k + 1 ≤ x.length := by omega
      have HY2 := Lib.hid hy256
      have b1 : data.length + 1 ≤ maxLen := by unfold maxLen; omega
      have b2 : (data.length + 1) * 1 ≤ 140737488355328 := by omega
      clear htp har htd htdx hdx hg hdl hhd htd2 hy hy256 g1 g3 hn hkx
      go_wp2
      go_quiet (fail)
      generalize hwq : wr.drewN _ = wq
      have kq : Kp No wr wq := by rw [← hwq]; exact (Kp.refl _ _).drewN _
      clear hwq
      have T6' := Lib.hid (T.out.no kq); have R6 := Lib.hid ((R.out.kpNo kq).here)
      have q62 : wq.cell? ⟨w3.heap.size, 2, none⟩ = some (.slice AD data.length cD) := kq.cellS q2 (no_no _)
      clear kq
      go_wp2
      go_region_law (first
        | (refine stp_append elB rfl (.tmp 51) (.tmp 55) rfl rfl rfl (l := data) (m := [y]) T7.out.own.alloc_ (Rd.litAt BK 5 _ _ [y] rfl (by unfold maxLen; simp) _ _ rfl rfl) b1 b2 ?_; intro v8 w8 m1 m2 m3; obtain ⟨A8, c8, rfl⟩ := m1.rd.shape; have p8 := m2.blk (T7.out.no ((Kp.refl No _).alloc _)).pkt (fun e => by have := T7.out.dn _ e; omega); have c82 := (blk_cell p8 2).trans rfl; have f82 := blk_free p8 2; have T8 := Lib.hid ((T7.out.no ((Kp.refl No _).alloc _)).app m1 m2 (fun g hg => (m3 g hg).imp id id)); have M2 := Lib.hid m2; clear m1 m2 m3 p8)
        | (go_simp; go_at_call 52; refine (qget_any (w := wq.drew) (R6.out.kpNo (Kp.refl No _).drew) hL9 HN.out 8 (by decide) 8 rfl).mono ?_; rintro e w7 ⟨rfl, a7⟩; rw [HY.out]; have T7 := Lib.hid (T6'.out.far a7.kp (fun k e => by have e : k = p := e; subst e; exact ⟨P2.out, PW.out⟩)); have q72 : w7.cell? ⟨w3.heap.size, 2, none⟩ = some (.slice AD data.length cD) := (blk_cell T7.out.pkt 2).trans rfl; have q73 : ∀ o, (w7.alloc o).cell? ⟨w3.heap.size, 2, none⟩ = some (.slice AD data.length cD) := (fun o => (blk_cell (T7.out.no ((Kp.refl No _).alloc o)).pkt 2).trans rfl); have R7 := Lib.hid a7; clear a7))
      all_goals
        have ta := T8.out
        have ra := (T7.out.no ((Kp.refl No _).alloc _)).rdq (D' := .slice A8 (data ++ [y]).length c8) M2.out (R7.out.kpNo ((Kp.refl No _).alloc _)) PW.out VB.out
        rw [List.length_append, List.length_singleton] at ta ra
        have TA := Lib.hid ta; have RA := Lib.hid ra
        clear ta ra
        go_wp2
        go_roundg (x.length + 1 - (k + 1))
        case measure => have := HG.out; omega
        case rel => exact ⟨k + 1, rfl, by omega, data ++ [y], _, _, _, TA.out, by rw [← HL.out]; exact RA.out, by rw [List.length_append, List.length_singleton, HDL.out], by rw [← HL.out]; exact TD2.out, fun e => by simp at e, fun z hz => by rcases List.mem_append.1 hz with hz | hz; exact DX.out z hz; rw [List.mem_singleton.1 hz]; exact HY2.out⟩
    · have hx3 : L.length < n + 8 ∨ (n + 8 ≤ L.length ∧ hb = true) ∨ (n + 8 ≤ L.length ∧ hb = false ∧ f' ≠ 0) := by
        rcases Nat.lt_or_ge L.length (n + 8) with h | h
        · exact .inl h
        · cases hb
          · exact .inr (.inr ⟨h, rfl, fun e => hgo ⟨h, rfl, e⟩⟩)
          · exact .inr (.inl ⟨h, rfl⟩)
      have hfin := htdx.fin HXX.out (by
        rw [← HL.out, ← HHB.out]
        rcases hx3 with h | ⟨_, h⟩ | ⟨_, _, h⟩
        · exact .inl (by omega)
        · exact .inr (.inl h)
        · exact .inr (.inr h)) (by rw [← HL.out, ← HHB.out]; exact hhd)
      rw [← HL.out, ← HHB.out, ← HNE.out, HFX.out] at hfin
      obtain ⟨s, hs⟩ : ∃ s, s = rendV L n f' := ⟨_, rfl⟩
      obtain ⟨bd, hbd⟩ : ∃ bd, bd = layBad hb N data := ⟨_, rfl⟩
      obtain ⟨Y, hY⟩ : ∃ Y, Y = layL hb N data := ⟨_, rfl⟩
      have hYx : ∀ z ∈ Y, z < 256 := by
        rw [hY]; unfold layL
        split
        · exact frameP_lt _ (packB_lt _)
        · intro z hz; simp at hz
      rw [← hs, ← hbd, ← hY] at hfin
      have hyb := strB_beq hYx HX.out
      have hres : (tOk L = true ∧ (s != 0) = false ∧ (bd != 0) = false ∧ decide (Y = f) = true ∧ data = tD L) ∨ (tOk L = false ∧ (s != 0) = true) ∨ (tOk L = false ∧ (s != 0) = false ∧ (bd != 0) = true) := by
        cases ht : tOk L
        · right
          by_cases h : s = 0
          · rcases hfin.2 ht with h' | h'
            · exact absurd h h'
            · exact .inr ⟨rfl, by simp [h], by simpa using h'⟩
          · exact .inl ⟨rfl, by simpa using h⟩
        · obtain ⟨a, b, c, d⟩ := hfin.1 ht
          exact .inl ⟨rfl, by simp [a], by simp [b], by simp [c], d⟩
      have HS := Lib.hid hs.symm; have HBD := Lib.hid hbd.symm; have HYY := Lib.hid hY.symm
      have hhd2 := hhd
      clear htp har htd htdx hdx hg hdl hhd hs hfin hgo hn hbd hY hYx
      rcases hx3 with h1 | ⟨h1, h2⟩ | ⟨h1, h2, h3⟩
      · rcases hres with ⟨e0, e1, e2, e3, e4⟩ | ⟨e0, e1⟩ | ⟨e0, e1, e2⟩
        · have g1I : decide ((8 : Int) ≤ (L.length : Int) - (n : Int)) = false := by simp; omega
          clear h1 hhd2
          have HQ := Lib.hid e0
          have HE := Lib.hid e4
          rw [e3] at hyb
          clear e0 e3 e4
          go_wp2
          go_quiet (fail)
          generalize hwq : wr.drewN _ = wq
          have kq : Kp No wr wq := by rw [← hwq]; exact (Kp.refl _ _).drewN _
          clear hwq
          have T6' := Lib.hid (T.out.no kq); have R6 := Lib.hid ((R.out.kpNo kq).here)
          have o0 : wq.cell? ⟨w3.heap.size, 0, none⟩ = some (.bool _) := (blk_cell T6'.out.pkt 0).trans rfl
          have o1 : wq.cell? ⟨w3.heap.size, 1, none⟩ = some (.int .u64 (N : Int)) := (blk_cell T6'.out.pkt 1).trans rfl
          have o2 : wq.cell? ⟨w3.heap.size, 2, none⟩ = some (.slice AD data.length cD) := (blk_cell T6'.out.pkt 2).trans rfl
          clear kq
          go_wp2_with fail
          refine (rlay_any T6'.out.own.rd _ N (Nat.lt_succ_of_lt HCL.out) DX.out).mono ?_
          rintro e w6 ⟨v6, rfl, k6⟩
          rw [HBD.out]
          rw [HYY.out] at k6
          obtain ⟨A6', c6, rfl⟩ := k6.own.rd.shape
          have T9 := Lib.hid (T6'.out.no k6.kp); have R9 := Lib.hid ((R6.out.kpNo k6.kp).here); have K6 := Lib.hid k6
          clear k6
          go_wp2_with fail
          refine (qend_any R9.out hL9 HN.out).mono ?_
          rintro e w7 ⟨rfl, k7⟩
          rw [HS.out]
          have t7 := T9.out.no k7
          have hst1 := (K6.out.own.rd.kpNo k7).str
          have hst2 := (H.out.kpNo t7.kp).str
          have p0 : w7.cell? ⟨w3.heap.size, 0, none⟩ = some (.bool _) := (blk_cell t7.pkt 0).trans rfl
          have p1 : w7.cell? ⟨w3.heap.size, 1, none⟩ = some (.int .u64 (N : Int)) := (blk_cell t7.pkt 1).trans rfl
          have p2 : w7.cell? ⟨w3.heap.size, 2, none⟩ = some (.slice AD data.length cD) := (blk_cell t7.pkt 2).trans rfl
          have r0 : w7.cell? ⟨w.heap.size, 0, none⟩ = some (.bool false) := (blk_cell t7.res 0).trans rfl
          have r1 : w7.cell? ⟨w.heap.size, 1, none⟩ = some (.int .u64 0) := (blk_cell t7.res 1).trans rfl
          have r2 : w7.cell? ⟨w.heap.size, 2, none⟩ = some (.slice none 0 0) := (blk_cell t7.res 2).trans rfl
          have s0 := blk_free t7.res 0; have s1 := blk_free t7.res 1; have s2 := blk_free t7.res 2
          have E3 := Lib.hid t7.end3
          clear k7 t7
          go_wp2
          exact bodyPost_ret (v := .tuple #[.agg #[.bool _, .int .u64 (N : Int), .slice AD data.length cD], .int .i64 0]) (by simp [results, Try.results14, go_sem, r0, r1, r2]) rfl (HYES.out _ _ HQ.out (by rw [← HE.out]; exact E3.out _ _ _))
        · have g1I : decide ((8 : Int) ≤ (L.length : Int) - (n : Int)) = false := by simp; omega
          clear h1 hhd2
          have HQ := Lib.hid e0
          clear e0 hyb
          go_wp2
          go_quiet (fail)
          generalize hwq : wr.drewN _ = wq
          have kq : Kp No wr wq := by rw [← hwq]; exact (Kp.refl _ _).drewN _
          clear hwq
          have T6' := Lib.hid (T.out.no kq); have R6 := Lib.hid ((R.out.kpNo kq).here)
          have o0 : wq.cell? ⟨w3.heap.size, 0, none⟩ = some (.bool _) := (blk_cell T6'.out.pkt 0).trans rfl
          have o1 : wq.cell? ⟨w3.heap.size, 1, none⟩ = some (.int .u64 (N : Int)) := (blk_cell T6'.out.pkt 1).trans rfl
          have o2 : wq.cell? ⟨w3.heap.size, 2, none⟩ = some (.slice AD data.length cD) := (blk_cell T6'.out.pkt 2).trans rfl
          clear kq
          go_wp2_with fail
          refine (rlay_any T6'.out.own.rd _ N (Nat.lt_succ_of_lt HCL.out) DX.out).mono ?_
          rintro e w6 ⟨v6, rfl, k6⟩
          rw [HBD.out]
          rw [HYY.out] at k6
          obtain ⟨A6', c6, rfl⟩ := k6.own.rd.shape
          have T9 := Lib.hid (T6'.out.no k6.kp); have R9 := Lib.hid ((R6.out.kpNo k6.kp).here); have K6 := Lib.hid k6
          clear k6
          go_wp2_with fail
          refine (qend_any R9.out hL9 HN.out).mono ?_
          rintro e w7 ⟨rfl, k7⟩
          rw [HS.out]
          have t7 := T9.out.no k7
          have hst1 := (K6.out.own.rd.kpNo k7).str
          have hst2 := (H.out.kpNo t7.kp).str
          have p0 : w7.cell? ⟨w3.heap.size, 0, none⟩ = some (.bool _) := (blk_cell t7.pkt 0).trans rfl
          have p1 : w7.cell? ⟨w3.heap.size, 1, none⟩ = some (.int .u64 (N : Int)) := (blk_cell t7.pkt 1).trans rfl
          have p2 : w7.cell? ⟨w3.heap.size, 2, none⟩ = some (.slice AD data.length cD) := (blk_cell t7.pkt 2).trans rfl
          have r0 : w7.cell? ⟨w.heap.size, 0, none⟩ = some (.bool false) := (blk_cell t7.res 0).trans rfl
          have r1 : w7.cell? ⟨w.heap.size, 1, none⟩ = some (.int .u64 0) := (blk_cell t7.res 1).trans rfl
          have r2 : w7.cell? ⟨w.heap.size, 2, none⟩ = some (.slice none 0 0) := (blk_cell t7.res 2).trans rfl
          have s0 := blk_free t7.res 0; have s1 := blk_free t7.res 1; have s2 := blk_free t7.res 2
          have E3 := Lib.hid t7.end3
          clear k7 t7
          go_wp2
          exact bodyPost_ret (v := .tuple #[.agg #[.bool false, .int .u64 0, .slice none 0 0], .int .i64 140]) (by simp [results, Try.results14, go_sem, r0, r1, r2]) rfl (HNO.out _ HQ.out (E3.out _ _ _).kp)
        · have g1I : decide ((8 : Int) ≤ (L.length : Int) - (n : Int)) = false := by simp; omega
          clear h1 hhd2
          have HQ := Lib.hid e0
          clear e0 hyb
          go_wp2
          go_quiet (fail)
          generalize hwq : wr.drewN _ = wq
          have kq : Kp No wr wq := by rw [← hwq]; exact (Kp.refl _ _).drewN _
          clear hwq
          have T6' := Lib.hid (T.out.no kq); have R6 := Lib.hid ((R.out.kpNo kq).here)
          have o0 : wq.cell? ⟨w3.heap.size, 0, none⟩ = some (.bool _) := (blk_cell T6'.out.pkt 0).trans rfl
          have o1 : wq.cell? ⟨w3.heap.size, 1, none⟩ = some (.int .u64 (N : Int)) := (blk_cell T6'.out.pkt 1).trans rfl
          have o2 : wq.cell? ⟨w3.heap.size, 2, none⟩ = some (.slice AD data.length cD) := (blk_cell T6'.out.pkt 2).trans rfl
          clear kq
          go_wp2_with fail
          refine (rlay_any T6'.out.own.rd _ N (Nat.lt_succ_of_lt HCL.out) DX.out).mono ?_
          rintro e w6 ⟨v6, rfl, k6⟩
          rw [HBD.out]
          rw [HYY.out] at k6
          obtain ⟨A6', c6, rfl⟩ := k6.own.rd.shape
          have T9 := Lib.hid (T6'.out.no k6.kp); have R9 := Lib.hid ((R6.out.kpNo k6.kp).here); have K6 := Lib.hid k6
          clear k6
          go_wp2_with fail
          refine (qend_any R9.out hL9 HN.out).mono ?_
          rintro e w7 ⟨rfl, k7⟩
          rw [HS.out]
          have t7 := T9.out.no k7
          have hst1 := (K6.out.own.rd.kpNo k7).str
          have hst2 := (H.out.kpNo t7.kp).str
          have p0 : w7.cell? ⟨w3.heap.size, 0, none⟩ = some (.bool _) := (blk_cell t7.pkt 0).trans rfl
          have p1 : w7.cell? ⟨w3.heap.size, 1, none⟩ = some (.int .u64 (N : Int)) := (blk_cell t7.pkt 1).trans rfl
          have p2 : w7.cell? ⟨w3.heap.size, 2, none⟩ = some (.slice AD data.length cD) := (blk_cell t7.pkt 2).trans rfl
          have r0 : w7.cell? ⟨w.heap.size, 0, none⟩ = some (.bool false) := (blk_cell t7.res 0).trans rfl
          have r1 : w7.cell? ⟨w.heap.size, 1, none⟩ = some (.int .u64 0) := (blk_cell t7.res 1).trans rfl
          have r2 : w7.cell? ⟨w.heap.size, 2, none⟩ = some (.slice none 0 0) := (blk_cell t7.res 2).trans rfl
          have s0 := blk_free t7.res 0; have s1 := blk_free t7.res 1; have s2 := blk_free t7.res 2
          have E3 := Lib.hid t7.end3
          clear k7 t7
          go_wp2
          exact bodyPost_ret (v := .tuple #[.agg #[.bool false, .int .u64 0, .slice none 0 0], .int .i64 140]) (by simp [results, Try.results14, go_sem, r0, r1, r2]) rfl (HNO.out _ HQ.out (E3.out _ _ _).kp)
      · rcases hres with ⟨e0, e1, e2, e3, e4⟩ | ⟨e0, e1⟩ | ⟨e0, e1, e2⟩
        · subst h2
          have g1I : decide ((8 : Int) ≤ (L.length : Int) - (n : Int)) = true := by simp; omega
          clear h1 hhd2
          have HQ := Lib.hid e0
          have HE := Lib.hid e4
          rw [e3] at hyb
          clear e0 e3 e4
          go_wp2
          go_quiet (fail)
          generalize hwq : wr.drewN _ = wq
          have kq : Kp No wr wq := by rw [← hwq]; exact (Kp.refl _ _).drewN _
          clear hwq
          have T6' := Lib.hid (T.out.no kq); have R6 := Lib.hid ((R.out.kpNo kq).here)
          have o0 : wq.cell? ⟨w3.heap.size, 0, none⟩ = some (.bool _) := (blk_cell T6'.out.pkt 0).trans rfl
          have o1 : wq.cell? ⟨w3.heap.size, 1, none⟩ = some (.int .u64 (N : Int)) := (blk_cell T6'.out.pkt 1).trans rfl
          have o2 : wq.cell? ⟨w3.heap.size, 2, none⟩ = some (.slice AD data.length cD) := (blk_cell T6'.out.pkt 2).trans rfl
          clear kq
          go_wp2_with fail
          refine (rlay_any T6'.out.own.rd _ N (Nat.lt_succ_of_lt HCL.out) DX.out).mono ?_
          rintro e w6 ⟨v6, rfl, k6⟩
          rw [HBD.out]
          rw [HYY.out] at k6
          obtain ⟨A6', c6, rfl⟩ := k6.own.rd.shape
          have T9 := Lib.hid (T6'.out.no k6.kp); have R9 := Lib.hid ((R6.out.kpNo k6.kp).here); have K6 := Lib.hid k6
          clear k6
          go_wp2_with fail
          refine (qend_any R9.out hL9 HN.out).mono ?_
          rintro e w7 ⟨rfl, k7⟩
          rw [HS.out]
          have t7 := T9.out.no k7
          have hst1 := (K6.out.own.rd.kpNo k7).str
          have hst2 := (H.out.kpNo t7.kp).str
          have p0 : w7.cell? ⟨w3.heap.size, 0, none⟩ = some (.bool _) := (blk_cell t7.pkt 0).trans rfl
          have p1 : w7.cell? ⟨w3.heap.size, 1, none⟩ = some (.int .u64 (N : Int)) := (blk_cell t7.pkt 1).trans rfl
          have p2 : w7.cell? ⟨w3.heap.size, 2, none⟩ = some (.slice AD data.length cD) := (blk_cell t7.pkt 2).trans rfl
          have r0 : w7.cell? ⟨w.heap.size, 0, none⟩ = some (.bool false) := (blk_cell t7.res 0).trans rfl
          have r1 : w7.cell? ⟨w.heap.size, 1, none⟩ = some (.int .u64 0) := (blk_cell t7.res 1).trans rfl
          have r2 : w7.cell? ⟨w.heap.size, 2, none⟩ = some (.slice none 0 0) := (blk_cell t7.res 2).trans rfl
          have s0 := blk_free t7.res 0; have s1 := blk_free t7.res 1; have s2 := blk_free t7.res 2
          have E3 := Lib.hid t7.end3
          clear k7 t7
          go_wp2
          exact bodyPost_ret (v := .tuple #[.agg #[.bool _, .int .u64 (N : Int), .slice AD data.length cD], .int .i64 0]) (by simp [results, Try.results14, go_sem, r0, r1, r2]) rfl (HYES.out _ _ HQ.out (by rw [← HE.out]; exact E3.out _ _ _))
        · subst h2
          have g1I : decide ((8 : Int) ≤ (L.length : Int) - (n : Int)) = true := by simp; omega
          clear h1 hhd2
          have HQ := Lib.hid e0
          clear e0 hyb
          go_wp2
          go_quiet (fail)
          generalize hwq : wr.drewN _ = wq
          have kq : Kp No wr wq := by rw [← hwq]; exact (Kp.refl _ _).drewN _
          clear hwq
          have T6' := Lib.hid (T.out.no kq); have R6 := Lib.hid ((R.out.kpNo kq).here)
          have o0 : wq.cell? ⟨w3.heap.size, 0, none⟩ = some (.bool _) := (blk_cell T6'.out.pkt 0).trans rfl
          have o1 : wq.cell? ⟨w3.heap.size, 1, none⟩ = some (.int .u64 (N : Int)) := (blk_cell T6'.out.pkt 1).trans rfl
          have o2 : wq.cell? ⟨w3.heap.size, 2, none⟩ = some (.slice AD data.length cD) := (blk_cell T6'.out.pkt 2).trans rfl
          clear kq
          go_wp2_with fail
          refine (rlay_any T6'.out.own.rd _ N (Nat.lt_succ_of_lt HCL.out) DX.out).mono ?_
          rintro e w6 ⟨v6, rfl, k6⟩
          rw [HBD.out]
          rw [HYY.out] at k6
          obtain ⟨A6', c6, rfl⟩ := k6.own.rd.shape
          have T9 := Lib.hid (T6'.out.no k6.kp); have R9 := Lib.hid ((R6.out.kpNo k6.kp).here); have K6 := Lib.hid k6
          clear k6
          go_wp2_with fail
          refine (qend_any R9.out hL9 HN.out).mono ?_
          rintro e w7 ⟨rfl, k7⟩
          rw [HS.out]
          have t7 := T9.out.no k7
          have hst1 := (K6.out.own.rd.kpNo k7).str
          have hst2 := (H.out.kpNo t7.kp).str
          have p0 : w7.cell? ⟨w3.heap.size, 0, none⟩ = some (.bool _) := (blk_cell t7.pkt 0).trans rfl
          have p1 : w7.cell? ⟨w3.heap.size, 1, none⟩ = some (.int .u64 (N : Int)) := (blk_cell t7.pkt 1).trans rfl
          have p2 : w7.cell? ⟨w3.heap.size, 2, none⟩ = some (.slice AD data.length cD) := (blk_cell t7.pkt 2).trans rfl
          have r0 : w7.cell? ⟨w.heap.size, 0, none⟩ = some (.bool false) := (blk_cell t7.res 0).trans rfl
          have r1 : w7.cell? ⟨w.heap.size, 1, none⟩ = some (.int .u64 0) := (blk_cell t7.res 1).trans rfl
          have r2 : w7.cell? ⟨w.heap.size, 2, none⟩ = some (.slice none 0 0) := (blk_cell t7.res 2).trans rfl
          have s0 := blk_free t7.res 0; have s1 := blk_free t7.res 1; have s2 := blk_free t7.res 2
          have E3 := Lib.hid t7.end3
          clear k7 t7
          go_wp2
          exact bodyPost_ret (v := .tuple #[.agg #[.bool false, .int .u64 0, .slice none 0 0], .int .i64 140]) (by simp [results, Try.results14, go_sem, r0, r1, r2]) rfl (HNO.out _ HQ.out (E3.out _ _ _).kp)
        · subst h2
          have g1I : decide ((8 : Int) ≤ (L.length : Int) - (n : Int)) = true := by simp; omega
          clear h1 hhd2
          have HQ := Lib.hid e0
          clear e0 hyb
          go_wp2
          go_quiet (fail)
          generalize hwq : wr.drewN _ = wq
          have kq : Kp No wr wq := by rw [← hwq]; exact (Kp.refl _ _).drewN _
          clear hwq
          have T6' := Lib.hid (T.out.no kq); have R6 := Lib.hid ((R.out.kpNo kq).here)
          have o0 : wq.cell? ⟨w3.heap.size, 0, none⟩ = some (.bool _) := (blk_cell T6'.out.pkt 0).trans rfl
          have o1 : wq.cell? ⟨w3.heap.size, 1, none⟩ = some (.int .u64 (N : Int)) := (blk_cell T6'.out.pkt 1).trans rfl
          have o2 : wq.cell? ⟨w3.heap.size, 2, none⟩ = some (.slice AD data.length cD) := (blk_cell T6'.out.pkt 2).trans rfl
          clear kq
          go_wp2_with fail
          refine (rlay_any T6'.out.own.rd _ N (Nat.lt_succ_of_lt HCL.out) DX.out).mono ?_
          rintro e w6 ⟨v6, rfl, k6⟩
          rw [HBD.out]
          rw [HYY.out] at k6
          obtain ⟨A6', c6, rfl⟩ := k6.own.rd.shape
          have T9 := Lib.hid (T6'.out.no k6.kp); have R9 := Lib.hid ((R6.out.kpNo k6.kp).here); have K6 := Lib.hid k6
          clear k6
          go_wp2_with fail
          refine (qend_any R9.out hL9 HN.out).mono ?_
          rintro e w7 ⟨rfl, k7⟩
          rw [HS.out]
          have t7 := T9.out.no k7
          have hst1 := (K6.out.own.rd.kpNo k7).str
          have hst2 := (H.out.kpNo t7.kp).str
          have p0 : w7.cell? ⟨w3.heap.size, 0, none⟩ = some (.bool _) := (blk_cell t7.pkt 0).trans rfl
          have p1 : w7.cell? ⟨w3.heap.size, 1, none⟩ = some (.int .u64 (N : Int)) := (blk_cell t7.pkt 1).trans rfl
          have p2 : w7.cell? ⟨w3.heap.size, 2, none⟩ = some (.slice AD data.length cD) := (blk_cell t7.pkt 2).trans rfl
          have r0 : w7.cell? ⟨w.heap.size, 0, none⟩ = some (.bool false) := (blk_cell t7.res 0).trans rfl
          have r1 : w7.cell? ⟨w.heap.size, 1, none⟩ = some (.int .u64 0) := (blk_cell t7.res 1).trans rfl
          have r2 : w7.cell? ⟨w.heap.size, 2, none⟩ = some (.slice none 0 0) := (blk_cell t7.res 2).trans rfl
          have s0 := blk_free t7.res 0; have s1 := blk_free t7.res 1; have s2 := blk_free t7.res 2
          have E3 := Lib.hid t7.end3
          clear k7 t7
          go_wp2
          exact bodyPost_ret (v := .tuple #[.agg #[.bool false, .int .u64 0, .slice none 0 0], .int .i64 140]) (by simp [results, Try.results14, go_sem, r0, r1, r2]) rfl (HNO.out _ HQ.out (E3.out _ _ _).kp)
      · rcases hres with ⟨e0, e1, e2, e3, e4⟩ | ⟨e0, e1⟩ | ⟨e0, e1, e2⟩
        · subst h2
          have g1I : decide ((8 : Int) ≤ (L.length : Int) - (n : Int)) = true := by simp; omega
          have g3I : (f' == 0) = false := by simpa using h3
          clear h1 h3 hhd2
          have HQ := Lib.hid e0
          have HE := Lib.hid e4
          rw [e3] at hyb
          clear e0 e3 e4
          go_wp2
          go_quiet (fail)
          generalize hwq : wr.drewN _ = wq
          have kq : Kp No wr wq := by rw [← hwq]; exact (Kp.refl _ _).drewN _
          clear hwq
          have T6' := Lib.hid (T.out.no kq); have R6 := Lib.hid ((R.out.kpNo kq).here)
          have o0 : wq.cell? ⟨w3.heap.size, 0, none⟩ = some (.bool _) := (blk_cell T6'.out.pkt 0).trans rfl
          have o1 : wq.cell? ⟨w3.heap.size, 1, none⟩ = some (.int .u64 (N : Int)) := (blk_cell T6'.out.pkt 1).trans rfl
          have o2 : wq.cell? ⟨w3.heap.size, 2, none⟩ = some (.slice AD data.length cD) := (blk_cell T6'.out.pkt 2).trans rfl
          clear kq
          go_wp2_with fail
          refine (rlay_any T6'.out.own.rd _ N (Nat.lt_succ_of_lt HCL.out) DX.out).mono ?_
          rintro e w6 ⟨v6, rfl, k6⟩
          rw [HBD.out]
          rw [HYY.out] at k6
          obtain ⟨A6', c6, rfl⟩ := k6.own.rd.shape
          have T9 := Lib.hid (T6'.out.no k6.kp); have R9 := Lib.hid ((R6.out.kpNo k6.kp).here); have K6 := Lib.hid k6
          clear k6
          go_wp2_with fail
          refine (qend_any R9.out hL9 HN.out).mono ?_
          rintro e w7 ⟨rfl, k7⟩
          rw [HS.out]
          have t7 := T9.out.no k7
          have hst1 := (K6.out.own.rd.kpNo k7).str
          have hst2 := (H.out.kpNo t7.kp).str
          have p0 : w7.cell? ⟨w3.heap.size, 0, none⟩ = some (.bool _) := (blk_cell t7.pkt 0).trans rfl
          have p1 : w7.cell? ⟨w3.heap.size, 1, none⟩ = some (.int .u64 (N : Int)) := (blk_cell t7.pkt 1).trans rfl
          have p2 : w7.cell? ⟨w3.heap.size, 2, none⟩ = some (.slice AD data.length cD) := (blk_cell t7.pkt 2).trans rfl
          have r0 : w7.cell? ⟨w.heap.size, 0, none⟩ = some (.bool false) := (blk_cell t7.res 0).trans rfl
          have r1 : w7.cell? ⟨w.heap.size, 1, none⟩ = some (.int .u64 0) := (blk_cell t7.res 1).trans rfl
          have r2 : w7.cell? ⟨w.heap.size, 2, none⟩ = some (.slice none 0 0) := (blk_cell t7.res 2).trans rfl
          have s0 := blk_free t7.res 0; have s1 := blk_free t7.res 1; have s2 := blk_free t7.res 2
          have E3 := Lib.hid t7.end3
          clear k7 t7
          go_wp2
          exact bodyPost_ret (v := .tuple #[.agg #[.bool _, .int .u64 (N : Int), .slice AD data.length cD], .int .i64 0]) (by simp [results, Try.results14, go_sem, r0, r1, r2]) rfl (HYES.out _ _ HQ.out (by rw [← HE.out]; exact E3.out _ _ _))
        · subst h2
          have g1I : decide ((8 : Int) ≤ (L.length : Int) - (n : Int)) = true := by simp; omega
          have g3I : (f' == 0) = false := by simpa using h3
          clear h1 h3 hhd2
          have HQ := Lib.hid e0
          clear e0 hyb
          go_wp2
          go_quiet (fail)
          generalize hwq : wr.drewN _ = wq
          have kq : Kp No wr wq := by rw [← hwq]; exact (Kp.refl _ _).drewN _
          clear hwq
          have T6' := Lib.hid (T.out.no kq); have R6 := Lib.hid ((R.out.kpNo kq).here)
          have o0 : wq.cell? ⟨w3.heap.size, 0, none⟩ = some (.bool _) := (blk_cell T6'.out.pkt 0).trans rfl
          have o1 : wq.cell? ⟨w3.heap.size, 1, none⟩ = some (.int .u64 (N : Int)) := (blk_cell T6'.out.pkt 1).trans rfl
          have o2 : wq.cell? ⟨w3.heap.size, 2, none⟩ = some (.slice AD data.length cD) := (blk_cell T6'.out.pkt 2).trans rfl
          clear kq
          go_wp2_with fail
          refine (rlay_any T6'.out.own.rd _ N (Nat.lt_succ_of_lt HCL.out) DX.out).mono ?_
          rintro e w6 ⟨v6, rfl, k6⟩
          rw [HBD.out]
          rw [HYY.out] at k6
          obtain ⟨A6', c6, rfl⟩ := k6.own.rd.shape
          have T9 := Lib.hid (T6'.out.no k6.kp); have R9 := Lib.hid ((R6.out.kpNo k6.kp).here); have K6 := Lib.hid k6
          clear k6
          go_wp2_with fail
          refine (qend_any R9.out hL9 HN.out).mono ?_
          rintro e w7 ⟨rfl, k7⟩
          rw [HS.out]
          have t7 := T9.out.no k7
          have hst1 := (K6.out.own.rd.kpNo k7).str
          have hst2 := (H.out.kpNo t7.kp).str
          have p0 : w7.cell? ⟨w3.heap.size, 0, none⟩ = some (.bool _) := (blk_cell t7.pkt 0).trans rfl
          have p1 : w7.cell? ⟨w3.heap.size, 1, none⟩ = some (.int .u64 (N : Int)) := (blk_cell t7.pkt 1).trans rfl
          have p2 : w7.cell? ⟨w3.heap.size, 2, none⟩ = some (.slice AD data.length cD) := (blk_cell t7.pkt 2).trans rfl
          have r0 : w7.cell? ⟨w.heap.size, 0, none⟩ = some (.bool false) := (blk_cell t7.res 0).trans rfl
          have r1 : w7.cell? ⟨w.heap.size, 1, none⟩ = some (.int .u64 0) := (blk_cell t7.res 1).trans rfl
          have r2 : w7.cell? ⟨w.heap.size, 2, none⟩ = some (.slice none 0 0) := (blk_cell t7.res 2).trans rfl
          have s0 := blk_free t7.res 0; have s1 := blk_free t7.res 1; have s2 := blk_free t7.res 2
          have E3 := Lib.hid t7.end3
          clear k7 t7
          go_wp2
          exact bodyPost_ret (v := .tuple #[.agg #[.bool false, .int .u64 0, .slice none 0 0], .int .i64 140]) (by simp [results, Try.results14, go_sem, r0, r1, r2]) rfl (HNO.out _ HQ.out (E3.out _ _ _).kp)
        · subst h2
          have g1I : decide ((8 : Int) ≤ (L.length : Int) - (n : Int)) = true := by simp; omega
          have g3I : (f' == 0) = false := by simpa using h3
          clear h1 h3 hhd2
          have HQ := Lib.hid e0
          clear e0 hyb
          go_wp2
          go_quiet (fail)
          generalize hwq : wr.drewN _ = wq
          have kq : Kp No wr wq := by rw [← hwq]; exact (Kp.refl _ _).drewN _
          clear hwq
          have T6' := Lib.hid (T.out.no kq); have R6 := Lib.hid ((R.out.kpNo kq).here)
          have o0 : wq.cell? ⟨w3.heap.size, 0, none⟩ = some (.bool _) := (blk_cell T6'.out.pkt 0).trans rfl
          have o1 : wq.cell? ⟨w3.heap.size, 1, none⟩ = some (.int .u64 (N : Int)) := (blk_cell T6'.out.pkt 1).trans rfl
          have o2 : wq.cell? ⟨w3.heap.size, 2, none⟩ = some (.slice AD data.length cD) := (blk_cell T6'.out.pkt 2).trans rfl
          clear kq
          go_wp2_with fail
          refine (rlay_any T6'.out.own.rd _ N (Nat.lt_succ_of_lt HCL.out) DX.out).mono ?_
          rintro e w6 ⟨v6, rfl, k6⟩
          rw [HBD.out]
          rw [HYY.out] at k6
          obtain ⟨A6', c6, rfl⟩ := k6.own.rd.shape
          have T9 := Lib.hid (T6'.out.no k6.kp); have R9 := Lib.hid ((R6.out.kpNo k6.kp).here); have K6 := Lib.hid k6
          clear k6
          go_wp2_with fail
          refine (qend_any R9.out hL9 HN.out).mono ?_
          rintro e w7 ⟨rfl, k7⟩
          rw [HS.out]
          have t7 := T9.out.no k7
          have hst1 := (K6.out.own.rd.kpNo k7).str
          have hst2 := (H.out.kpNo t7.kp).str
          have p0 : w7.cell? ⟨w3.heap.size, 0, none⟩ = some (.bool _) := (blk_cell t7.pkt 0).trans rfl
          have p1 : w7.cell? ⟨w3.heap.size, 1, none⟩ = some (.int .u64 (N : Int)) := (blk_cell t7.pkt 1).trans rfl
          have p2 : w7.cell? ⟨w3.heap.size, 2, none⟩ = some (.slice AD data.length cD) := (blk_cell t7.pkt 2).trans rfl
          have r0 : w7.cell? ⟨w.heap.size, 0, none⟩ = some (.bool false) := (blk_cell t7.res 0).trans rfl
          have r1 : w7.cell? ⟨w.heap.size, 1, none⟩ = some (.int .u64 0) := (blk_cell t7.res 1).trans rfl
          have r2 : w7.cell? ⟨w.heap.size, 2, none⟩ = some (.slice none 0 0) := (blk_cell t7.res 2).trans rfl
          have s0 := blk_free t7.res 0; have s1 := blk_free t7.res 1; have s2 := blk_free t7.res 2
          have E3 := Lib.hid t7.end3
          clear k7 t7
          go_wp2
          exact bodyPost_ret (v := .tuple #[.agg #[.bool false, .int .u64 0, .slice none 0 0], .int .i64 140]) (by simp [results, Try.results14, go_sem, r0, r1, r2]) rfl (HNO.out _ HQ.out (E3.out _ _ _).kp)

theorem rtake_any {w : World} {v : Value} {f : List Nat} (hv : Rd BK w v f) (hl : f.length ≤ 1000000) (hx : ∀ x ∈ f, x < 256) : Calls Try.prog 14 #[v] w (TakeR f w) := by
  by_cases h : isF f = true
  · exact rtake_yes hv hl hx h
  · exact rtake_no hv hl hx (by simpa using h)
end Go.Proofs.Ytnejjjoedmefkaa
