/- link.Receiver. -/
import Derived.Test.YtnejjjoedmefkaaSnp
namespace Go.Proofs.Ytnejjjoedmefkaa
set_option linter.unusedVariables false
set_option linter.unusedSimpArgs false
open Go.RowKit

structure RcvS (p heard : Nat) (w : World) : Prop where
  blk : w.heap[p]? = some (.cells #[.int .u64 (heard : Int)] 96 (0, 0))
  big : heard < 18446744073709551616
theorem RcvS.far {S : Nat → Prop} {p heard : Nat} {w w' : World} (h : RcvS p heard w) (hk : Kp S w w') (hp : ¬ S p) : RcvS p heard w' := ⟨hk.blk h.blk hp, h.big⟩
theorem RcvS.no {p heard : Nat} {w w' : World} (h : RcvS p heard w) (hk : Kp No w w') : RcvS p heard w' := h.far hk (no_no _)

theorem newRcv_any (w : World) (heard : Nat) (h : heard < 18446744073709551616) (x : Int) (hx : x = heard) : Calls Try.prog 17 #[.int .u64 x] w fun e w' => ∃ p, e = .returned (.pointer (some ⟨p, 0, none⟩)) ∧ RcvS p heard w' ∧ Kp No w w' ∧ w.heap.size ≤ p ∧ p < w'.heap.size := by
  subst hx
  go_enter Try.func17, Try.ntmps17
  go_wp2
  go_ret
  exact ⟨w.heap.size, rfl, ⟨blk_new w _, h⟩, (Kp.refl _ _).alloc _, Nat.le_refl _, by simp⟩
theorem heard_any {w : World} {p heard : Nat} (h : RcvS p heard w) : Calls Try.prog 28 #[.pointer (some ⟨p, 0, none⟩)] w fun e w' => e = .returned (.int .u64 (heard : Int)) ∧ w = w' := by
  have c0 : w.cell? ⟨p, 0, none⟩ = some (.int .u64 (heard : Int)) := (blk_cell h.blk 0).trans rfl
  clear h
  go_enter Try.func28, Try.ntmps28
  go_wp2
  go_ret
  exact ⟨rfl, rfl⟩

/-- Does a packet count; is it new? -/
def nxt (heard : Nat) : Nat := (heard + 1) % 18446744073709551616
def ackB (heard : Nat) (f : List Nat) : Bool := takeOk f && !tkH f && decide (tkN f ≠ 0) && decide (tkN f ≤ nxt heard)
def freshB (heard : Nat) (f : List Nat) : Bool := ackB heard f && decide (tkN f = nxt heard)
theorem nxt_wrap (heard : Nat) : IntKind.u64.wrap ((heard : Int) + 1) = (nxt heard : Int) := by
  show ((heard : Int) + 1) % 18446744073709551616 = _
  unfold nxt
  omega
def RHearR (p heard : Nat) (f : List Nat) (w : World) (e : Ending) (w' : World) : Prop :=
  ∃ v1 v2, e = .returned (.tuple #[v1, .bool (freshB heard f), v2]) ∧ Kp (fun k => k = p) w w' ∧ RcvS p (if freshB heard f then nxt heard else heard) w' ∧
    Own BK 5 w' v1 (if freshB heard f then tkD f else []) ∧ Own BK 5 w' v2 (if ackB heard f then layL true (tkN f) [] else []) ∧ (∀ g, v1.ownBlock = some g → w.heap.size ≤ g) ∧ (∀ g, v2.ownBlock = some g → w.heap.size ≤ g)

set_option maxHeartbeats 400000 in
set_option maxRecDepth 100000 in
theorem rhear_any {w : World} {p heard : Nat} {v : Value} {f : List Nat} (h : RcvS p heard w) (hv : Rd BK w v f) (hl : f.length ≤ 1000000) (hx : ∀ x ∈ f, x < 256) :
    Calls Try.prog 25 #[.pointer (some ⟨p, 0, none⟩), v] w (RHearR p heard f w) := by
  obtain ⟨A, cap, rfl⟩ := hv.shape
  have hpl := lt_of_block h.blk
  have H := Lib.hid h; have HV := Lib.hid hv; have HX := Lib.hid hx
  obtain ⟨m, hm⟩ : ∃ m, m = tkN f := ⟨_, rfl⟩
  obtain ⟨b, hb⟩ : ∃ b, b = tkH f := ⟨_, rfl⟩
  obtain ⟨ok, hok⟩ : ∃ ok, ok = takeOk f := ⟨_, rfl⟩
  obtain ⟨er, her⟩ : ∃ er, er = tkE f := ⟨_, rfl⟩
  obtain ⟨n, hn⟩ : ∃ n, n = nxt heard := ⟨_, rfl⟩
  have h1 : (er != 0) = !ok := by rw [her, hok]; exact takeOk_E f
  have e2 : IntKind.u64.wrap ((heard : Int) + 1) = (n : Int) := by rw [hn]; exact nxt_wrap heard
  have hml : m < 18446744073709551615 := by rw [hm]; exact tkN_lt f
  obtain ⟨z, hz⟩ : ∃ z, z = decide (m = 0) := ⟨_, rfl⟩
  obtain ⟨gt, hgt⟩ : ∃ gt, gt = decide (n < m) := ⟨_, rfl⟩
  obtain ⟨ne, hne⟩ : ∃ ne, ne = !decide (m = n) := ⟨_, rfl⟩
  have z1 : ((m : Int) == 0) = z := by rw [hz]; by_cases q : m = 0 <;> simp [q]
  have g1 : decide ((n : Int) < (m : Int)) = gt := by rw [hgt]; by_cases q : n < m <;> simp [q]
  have g2 : decide (n < m) = gt := hgt.symm
  have n1 : ((m : Int) != (n : Int)) = ne := by
    rw [hne]
    by_cases q : m = n
    · simp [q]
    · have : (m : Int) ≠ (n : Int) := by omega
      simp [q, this]
  have hA : ackB heard f = (ok && !b && !z && !gt) := by
    unfold ackB; rw [← hm, ← hb, ← hok, hz, hgt, hn]
    by_cases q : m ≤ nxt heard
    · simp [q, show ¬ nxt heard < m by omega]
    · simp [q, show nxt heard < m by omega]
  have hF : freshB heard f = (ok && !b && !z && !gt && !ne) := by
    unfold freshB; rw [hA, ← hm, hne, ← hn]; simp
  have HA := Lib.hid hA; have HF := Lib.hid hF; have HM := Lib.hid hm; have HB := Lib.hid hb; have HER := Lib.hid her; have HN := Lib.hid hn; have HML := Lib.hid hml
  clear h hv hx hm hb hok her hn hz hgt hne hA hF hml
  have hcase : ok = false ∨ (ok = true ∧ b = true) ∨ (ok = true ∧ b = false ∧ z = true) ∨ (ok = true ∧ b = false ∧ z = false ∧ gt = true) ∨ (ok = true ∧ b = false ∧ z = false ∧ gt = false ∧ ne = true) ∨ (ok = true ∧ b = false ∧ z = false ∧ gt = false ∧ ne = false) := by
    cases ok <;> cases b <;> cases z <;> cases gt <;> cases ne <;> simp
  have no : ackB heard f = false → ∀ w', Kp No w w' → RHearR p heard f w (.returned (.tuple #[.slice none 0 0, .bool false, .slice none 0 0])) w' := by
    intro e w' hk
    have e' : freshB heard f = false := by unfold freshB; rw [e]; rfl
    exact ⟨.slice none 0 0, .slice none 0 0, by rw [e'], hk.mono fun _ _ e => e.elim, by rw [e']; exact H.out.no hk, by rw [e']; exact Own.nil _ _ _, by rw [e]; exact Own.nil _ _ _, by simp [Value.ownBlock], by simp [Value.ownBlock]⟩
  have HNO := Lib.hid no
  clear no
  rcases hcase with rfl | ⟨rfl, rfl⟩ | ⟨rfl, rfl, rfl⟩ | ⟨rfl, rfl, rfl, rfl⟩ | ⟨rfl, rfl, rfl, rfl, rfl⟩ | ⟨rfl, rfl, rfl, rfl, rfl⟩
  · go_enter Try.func25, Try.ntmps25
    go_wp2_with fail
    refine (take_any HV.out hl HX.out).mono ?_
    rintro e w1 ⟨v1, rfl, k1⟩
    rw [← HM.out, ← HB.out, ← HER.out]
    obtain ⟨A1, cp1, rfl⟩ := k1.own.rd.shape
    have s1 := H.out.no k1.kp
    have c0 : w1.cell? ⟨p, 0, none⟩ = some (.int .u64 (heard : Int)) := (blk_cell s1.blk 0).trans rfl
    have f0 := blk_free s1.blk 0
    have K1 := Lib.hid k1; have S1 := Lib.hid s1
    have hpl1 : p < w1.heap.size := lt_of_block s1.blk
    clear k1 s1
    go_wp2
    go_quiet (fail)
    go_wp2
    go_ret3
    exact HNO.out (by rw [HA.out]; rfl) _ ((K1.out.kp.alloc _).drewN _)
  · go_enter Try.func25, Try.ntmps25
    go_wp2_with fail
    refine (take_any HV.out hl HX.out).mono ?_
    rintro e w1 ⟨v1, rfl, k1⟩
    rw [← HM.out, ← HB.out, ← HER.out]
    obtain ⟨A1, cp1, rfl⟩ := k1.own.rd.shape
    have s1 := H.out.no k1.kp
    have c0 : w1.cell? ⟨p, 0, none⟩ = some (.int .u64 (heard : Int)) := (blk_cell s1.blk 0).trans rfl
    have f0 := blk_free s1.blk 0
    have K1 := Lib.hid k1; have S1 := Lib.hid s1
    have hpl1 : p < w1.heap.size := lt_of_block s1.blk
    clear k1 s1
    go_wp2
    go_quiet (fail)
    go_wp2
    go_ret3
    exact HNO.out (by rw [HA.out]; rfl) _ ((K1.out.kp.alloc _).drewN _)
  · go_enter Try.func25, Try.ntmps25
    go_wp2_with fail
    refine (take_any HV.out hl HX.out).mono ?_
    rintro e w1 ⟨v1, rfl, k1⟩
    rw [← HM.out, ← HB.out, ← HER.out]
    obtain ⟨A1, cp1, rfl⟩ := k1.own.rd.shape
    have s1 := H.out.no k1.kp
    have c0 : w1.cell? ⟨p, 0, none⟩ = some (.int .u64 (heard : Int)) := (blk_cell s1.blk 0).trans rfl
    have f0 := blk_free s1.blk 0
    have K1 := Lib.hid k1; have S1 := Lib.hid s1
    have hpl1 : p < w1.heap.size := lt_of_block s1.blk
    clear k1 s1
    go_wp2
    go_quiet (fail)
    go_wp2
    go_ret3
    exact HNO.out (by rw [HA.out]; rfl) _ ((K1.out.kp.alloc _).drewN _)
  · go_enter Try.func25, Try.ntmps25
    go_wp2_with fail
    refine (take_any HV.out hl HX.out).mono ?_
    rintro e w1 ⟨v1, rfl, k1⟩
    rw [← HM.out, ← HB.out, ← HER.out]
    obtain ⟨A1, cp1, rfl⟩ := k1.own.rd.shape
    have s1 := H.out.no k1.kp
    have c0 : w1.cell? ⟨p, 0, none⟩ = some (.int .u64 (heard : Int)) := (blk_cell s1.blk 0).trans rfl
    have f0 := blk_free s1.blk 0
    have K1 := Lib.hid k1; have S1 := Lib.hid s1
    have hpl1 : p < w1.heap.size := lt_of_block s1.blk
    clear k1 s1
    go_wp2
    go_quiet (fail)
    go_wp2
    go_ret3
    exact HNO.out (by rw [HA.out]; rfl) _ ((K1.out.kp.alloc _).drewN _)
  · go_enter Try.func25, Try.ntmps25
    go_wp2_with fail
    refine (take_any HV.out hl HX.out).mono ?_
    rintro e w1 ⟨v1, rfl, k1⟩
    rw [← HM.out, ← HB.out, ← HER.out]
    obtain ⟨A1, cp1, rfl⟩ := k1.own.rd.shape
    have s1 := H.out.no k1.kp
    have c0 : w1.cell? ⟨p, 0, none⟩ = some (.int .u64 (heard : Int)) := (blk_cell s1.blk 0).trans rfl
    have f0 := blk_free s1.blk 0
    have K1 := Lib.hid k1; have S1 := Lib.hid s1
    have hpl1 : p < w1.heap.size := lt_of_block s1.blk
    clear k1 s1
    go_wp2
    go_quiet (fail)
    obtain ⟨wq, hwq⟩ : ∃ wq, wq = (w1.alloc (.cells #[.bool false, .int .u64 (m : Int), .slice A1 (tkD f).length cp1] 25)).drewN nq := ⟨_, rfl⟩
    rw [← hwq]
    have kq : Kp No w1 wq := by rw [hwq]; exact ((Kp.refl _ _).alloc _).drewN _
    have bq : wq.heap[w1.heap.size]? = some (.cells #[.bool false, .int .u64 (m : Int), .slice A1 (tkD f).length cp1] 25 (0, 0)) := by rw [hwq]; exact blk_new w1 _
    clear hwq
    have d0 := kq.cellS c0 (no_no _)
    have d1 : wq.cell? ⟨w1.heap.size, 1, none⟩ = some (.int .u64 (m : Int)) := (blk_cell bq 1).trans rfl
    have KQ := Lib.hid kq; have BQ := Lib.hid bq
    clear kq bq
    go_wp2_with fail
    refine (lay_any (Rd.nil BK wq) true m (Nat.lt_succ_of_lt HML.out) (fun x hx => by simp at hx)).mono ?_
    rintro e w2 ⟨v2, rfl, k2⟩
    obtain ⟨A2, cp2, rfl⟩ := k2.own.rd.shape
    have b2 := k2.kp.blk BQ.out (no_no _)
    have s2 := (S1.out.no KQ.out).no k2.kp
    have r0 : w2.cell? ⟨p, 0, none⟩ = some (.int .u64 (heard : Int)) := (blk_cell s2.blk 0).trans rfl
    have r1 := blk_free s2.blk 0
    have t1 : w2.cell? ⟨w1.heap.size, 1, none⟩ = some (.int .u64 (m : Int)) := (blk_cell b2 1).trans rfl
    have t2 : w2.cell? ⟨w1.heap.size, 2, none⟩ = some (.slice A1 (tkD f).length cp1) := (blk_cell b2 2).trans rfl
    have K2 := Lib.hid k2; have S2 := Lib.hid s2
    have hp2 : p < w1.heap.size := hpl1
    clear k2 s2 b2
    go_wp2
    go_quiet (fail)
    go_wp2
    have hA : ackB heard f = true := by rw [HA.out]; rfl
    have hF : freshB heard f = false := by rw [HF.out]; rfl
    have kk : Kp No w2 (w2.drewN nq) := (Kp.refl _ _).drewN _
    have kw := ((K1.out.kp.trans KQ.out).trans K2.out.kp).trans kk
    go_ret3
    refine ⟨.slice none 0 0, .slice A2 (layL true m []).length cp2, by rw [hF]; rfl, kw.mono fun _ _ e => e.elim, ?_, ?_, ?_, by simp [Value.ownBlock], fun g hg => Nat.le_trans (K1.out.kp.trans KQ.out).size (K2.out.ge g hg)⟩
    · rw [hF]; exact S2.out.no kk
    · rw [hF]; exact Own.nil _ _ _
    · rw [hA, if_pos rfl, ← HM.out]; exact K2.out.own.kpNo kk
  · go_enter Try.func25, Try.ntmps25
    go_wp2_with fail
    refine (take_any HV.out hl HX.out).mono ?_
    rintro e w1 ⟨v1, rfl, k1⟩
    rw [← HM.out, ← HB.out, ← HER.out]
    obtain ⟨A1, cp1, rfl⟩ := k1.own.rd.shape
    have s1 := H.out.no k1.kp
    have c0 : w1.cell? ⟨p, 0, none⟩ = some (.int .u64 (heard : Int)) := (blk_cell s1.blk 0).trans rfl
    have f0 := blk_free s1.blk 0
    have K1 := Lib.hid k1; have S1 := Lib.hid s1
    have hpl1 : p < w1.heap.size := lt_of_block s1.blk
    clear k1 s1
    go_wp2
    go_quiet (fail)
    obtain ⟨wq, hwq⟩ : ∃ wq, wq = (w1.alloc (.cells #[.bool false, .int .u64 (m : Int), .slice A1 (tkD f).length cp1] 25)).drewN nq := ⟨_, rfl⟩
    rw [← hwq]
    have kq : Kp No w1 wq := by rw [hwq]; exact ((Kp.refl _ _).alloc _).drewN _
    have bq : wq.heap[w1.heap.size]? = some (.cells #[.bool false, .int .u64 (m : Int), .slice A1 (tkD f).length cp1] 25 (0, 0)) := by rw [hwq]; exact blk_new w1 _
    clear hwq
    have d0 := kq.cellS c0 (no_no _)
    have d1 : wq.cell? ⟨w1.heap.size, 1, none⟩ = some (.int .u64 (m : Int)) := (blk_cell bq 1).trans rfl
    have KQ := Lib.hid kq; have BQ := Lib.hid bq
    clear kq bq
    go_wp2_with fail
    refine (lay_any (Rd.nil BK wq) true m (Nat.lt_succ_of_lt HML.out) (fun x hx => by simp at hx)).mono ?_
    rintro e w2 ⟨v2, rfl, k2⟩
    obtain ⟨A2, cp2, rfl⟩ := k2.own.rd.shape
    have b2 := k2.kp.blk BQ.out (no_no _)
    have s2 := (S1.out.no KQ.out).no k2.kp
    have r0 : w2.cell? ⟨p, 0, none⟩ = some (.int .u64 (heard : Int)) := (blk_cell s2.blk 0).trans rfl
    have r1 := blk_free s2.blk 0
    have t1 : w2.cell? ⟨w1.heap.size, 1, none⟩ = some (.int .u64 (m : Int)) := (blk_cell b2 1).trans rfl
    have t2 : w2.cell? ⟨w1.heap.size, 2, none⟩ = some (.slice A1 (tkD f).length cp1) := (blk_cell b2 2).trans rfl
    have K2 := Lib.hid k2; have S2 := Lib.hid s2
    have hp2 : p < w1.heap.size := hpl1
    clear k2 s2 b2
    go_wp2
    go_quiet (fail)
    go_wp2
    have hA : ackB heard f = true := by rw [HA.out]; rfl
    have hF : freshB heard f = true := by rw [HF.out]; rfl
    have kk : Kp No w2 (w2.drewN nq) := (Kp.refl _ _).drewN _
    have kw := ((K1.out.kp.trans KQ.out).trans K2.out.kp).trans kk
    have k1 := Kp.one (w := w2.drewN nq) (p := p) 0 (.int .u64 (n : Int))
    have hnx : n < 18446744073709551616 := by rw [HN.out]; exact Nat.mod_lt _ (by decide)
    have hpw : p < w.heap.size := hpl
    go_ret3
    refine ⟨.slice A1 (tkD f).length cp1, .slice A2 (layL true m []).length cp2, by rw [hF]; rfl, (kw.mono (S2 := fun k => k = p) fun _ _ e => e.elim).trans k1, ?_, ?_, ?_, fun g hg => K1.out.ge g hg, fun g hg => Nat.le_trans (K1.out.kp.trans KQ.out).size (K2.out.ge g hg)⟩
    · rw [hF, if_pos rfl, ← HN.out]; exact ⟨(blk_set (S2.out.no kk).blk 0 _).trans rfl, hnx⟩
    · rw [hF, if_pos rfl]; exact (((K1.out.own.kpNo KQ.out).kpNo K2.out.kp).kpNo kk).kp k1 fun g hg e => by have e : g = p := e; have := K1.out.ge g hg; omega
    · rw [hA, if_pos rfl, ← HM.out]; exact (K2.out.own.kpNo kk).kp k1 fun g hg e => by have e : g = p := e; have := Nat.le_trans (K1.out.kp.trans KQ.out).size (K2.out.ge g hg); omega
end Go.Proofs.Ytnejjjoedmefkaa
