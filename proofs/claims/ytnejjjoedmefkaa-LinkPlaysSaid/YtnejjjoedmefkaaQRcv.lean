/- carfaxref14: Sender.Hear, Receiver. -/
import Derived.Test.YtnejjjoedmefkaaQSnd
namespace Go.Proofs.Ytnejjjoedmefkaa
set_option linter.unusedVariables false
set_option linter.unusedSimpArgs false
open Go.RowKit

def RSHearR (p o : Nat) (cs : Array Value) (t : TypeId) (n : Nat) (on : Bool) (d f : List Nat) (w : World) (e : Ending) (w' : World) : Prop :=
  e = .returned (.bool (heardB n on f)) ∧ Kp (fun k => k = p) w w' ∧
    SqS p o (put3 cs o (if heardB n on f then n + 1 else n) (on && !heardB n on f) d) t (if heardB n on f then n + 1 else n) (on && !heardB n on f) d w'

set_option maxHeartbeats 400000 in
set_option maxRecDepth 100000 in
theorem rshear_any {w : World} {p o told : Nat} {cs : Array Value} {t : TypeId} {tells : Bool} {data : List Nat} {v : Value} {f : List Nat} (h : SqS p o cs t told tells data w) (hv : Rd BK w v f) (hl : f.length ≤ 1000000) (hx : ∀ x ∈ f, x < 256) :
    Calls Try.prog 24 #[.pointer (some ⟨p, o, none⟩), v] w (RSHearR p o cs t told tells data f w) := by
  obtain ⟨A, cap, rfl⟩ := hv.shape
  have hpl := lt_of_block h.blk
  have hbig := h.big
  have H := Lib.hid h; have HV := Lib.hid hv; have HX := Lib.hid hx
  obtain ⟨hB, hhB⟩ : ∃ hB, hB = heardB told tells f := ⟨_, rfl⟩
  obtain ⟨m, hm⟩ : ∃ m, m = tkN f := ⟨_, rfl⟩
  obtain ⟨b, hb⟩ : ∃ b, b = tkH f := ⟨_, rfl⟩
  obtain ⟨ok, hok⟩ : ∃ ok, ok = takeOk f := ⟨_, rfl⟩
  obtain ⟨er, her⟩ : ∃ er, er = tkE f := ⟨_, rfl⟩
  have h1 : (er != 0) = !ok := by rw [her, hok]; exact takeOk_E f
  have h2 : hB = (tells && ok && b && decide (m = told + 1)) := by rw [hhB]; unfold heardB; rw [← hm, ← hb, ← hok]
  obtain ⟨n, hn⟩ : ∃ n, n = told + 1 := ⟨_, rfl⟩
  have e1 : (told : Int) + 1 = (n : Int) := by omega
  have e2 : tells = true → IntKind.u64.wrap (n : Int) = (n : Int) := fun e => IntWalk.u64_in _ (by have := (h.ok e).1; omega)
  obtain ⟨ne, hne⟩ : ∃ ne, ne = ((m : Int) != (n : Int)) := ⟨_, rfl⟩
  have h3 : ne = !decide (m = told + 1) := by
    rw [hne, ← hn]
    by_cases hq : m = n
    · simp [hq]
    · have : (m : Int) ≠ (n : Int) := by omega
      simp [hq, this]
  have hneI := hne.symm
  have HM := Lib.hid hm; have HB := Lib.hid hb; have HER := Lib.hid her; have HHB := Lib.hid hhB
  have no : hB = false → ∀ w', Kp No w w' → RSHearR p o cs t told tells data f w (.returned (.bool false)) w' := by
    intro e w' hk
    refine ⟨by rw [← hhB, e], hk.mono fun _ _ e => e.elim, ?_⟩
    rw [← hhB, e]; simp only [Bool.not_false, Bool.and_true]
    rw [show (if false = true then told + 1 else told) = told from rfl, h.same]; exact h.no hk
  have HNO := Lib.hid no
  have H2 := Lib.hid h2; have H3 := Lib.hid h3; have HN := Lib.hid hn
  clear h hv hx hm hb her hhB no h2 h3 hne hn hok
  have hcase : (tells = false) ∨ (tells = true ∧ ok = false) ∨ (tells = true ∧ ok = true ∧ b = false) ∨ (tells = true ∧ ok = true ∧ b = true ∧ ne = true) ∨ (tells = true ∧ ok = true ∧ b = true ∧ ne = false) := by
    cases tells <;> cases ok <;> cases b <;> cases ne <;> simp
  rcases hcase with rfl | ⟨rfl, rfl⟩ | ⟨rfl, rfl, rfl⟩ | ⟨rfl, rfl, rfl, rfl⟩ | ⟨rfl, rfl, rfl, rfl⟩
  all_goals
    try (replace e2 := e2 rfl)
    go_enter Try.func24, Try.ntmps24
    go_wp2_with fail
    refine (rtake_any HV.out hl HX.out).mono ?_
    rintro e w1 ⟨v1, rfl, k1⟩
    rw [← HM.out, ← HB.out, ← HER.out]
    obtain ⟨A1, cp1, rfl⟩ := k1.own.rd.shape
    have s1 := H.out.no k1.kp
    obtain ⟨c0, c1, c2, f0, f1, f2⟩ := s1.cells
    have K1 := Lib.hid k1; have S1 := Lib.hid s1
    have hpl1 : p < w1.heap.size := lt_of_block s1.blk
    clear k1 s1
    go_wp2
    go_quiet (fail)
    go_wp2
    first
      | (go_ret; exact HNO.out (by rw [H2.out]; rfl) _ ((K1.out.kp.alloc _).drewN _))
      | (go_ret; exact HNO.out (by rw [H2.out]; simp only [Bool.true_and]; exact bnot_t H3.out) _ ((K1.out.kp.alloc _).drewN _))
      | (go_ret
         have hB1 : hB = true := by rw [H2.out]; simp only [Bool.true_and]; exact bnot_f H3.out
         have hh : heardB told true f = true := by rw [← HHB.out]; exact hB1
         have hk := (Kp.one (w := (w1.alloc (.cells #[.bool true, .int .u64 (m : Int), .slice A1 (tkD f).length cp1] 25)).drewN nq) (p := p) (o + 1) (.bool false)).trans (Kp.one (p := p) o (.int .u64 (n : Int)))
         have kk := ((K1.out.kp.alloc (.cells #[.bool true, .int .u64 (m : Int), .slice A1 (tkD f).length cp1] 25)).drewN nq)
         have bk := blk_set (blk_set (kk.blk H.out.blk (no_no _)) (o + 1) (.bool false)) o (.int .u64 (n : Int))
         refine ⟨by rw [hh]; rfl, (kk.mono (S2 := fun k => k = p) fun _ _ e => e.elim).trans hk, ?_⟩
         rw [hh, if_pos rfl, ← HN.out]
         refine H.out.put ?_ (by have := (H.out.ok rfl).1; have := HN.out; omega) (fun e => by simp at e) H.out.byt
         have hp : put3 cs o n (true && !true) data = (cs.setIfInBounds (o + 1) (.bool false)).setIfInBounds o (.int .u64 (n : Int)) := by
           unfold put3
           rw [set_same _ (o + 2) _ (by rw [Array.getElem?_setIfInBounds_ne (by omega), Array.getElem?_setIfInBounds_ne (by omega)]; exact H.out.c2)]
           exact Array.setIfInBounds_comm _ _ (by omega)
         rw [hp]; exact bk)

/-- The document's receiver: a cell of a block. -/
structure RcqS (p o : Nat) (cs : Array Value) (t : TypeId) (heard : Nat) (w : World) : Prop where
  blk : w.heap[p]? = some (.cells cs t (0, 0))
  c0 : cs[o]? = some (.int .u64 (heard : Int))
  big : heard < 18446744073709551616
theorem RcqS.far {S : Nat → Prop} {p o heard : Nat} {cs : Array Value} {t : TypeId} {w w' : World} (h : RcqS p o cs t heard w) (hk : Kp S w w') (hp : ¬ S p) : RcqS p o cs t heard w' := ⟨hk.blk h.blk hp, h.c0, h.big⟩
theorem RcqS.no {p o heard : Nat} {cs : Array Value} {t : TypeId} {w w' : World} (h : RcqS p o cs t heard w) (hk : Kp No w w') : RcqS p o cs t heard w' := h.far hk (no_no _)
def RRHearR (p o : Nat) (cs : Array Value) (t : TypeId) (heard : Nat) (f : List Nat) (w : World) (e : Ending) (w' : World) : Prop :=
  ∃ v1 v2, e = .returned (.tuple #[v1, .bool (freshB heard f), v2]) ∧ Kp (fun k => k = p) w w' ∧ RcqS p o (cs.setIfInBounds o (.int .u64 ((if freshB heard f then nxt heard else heard : Nat) : Int))) t (if freshB heard f then nxt heard else heard) w' ∧
    Own BK 5 w' v1 (if freshB heard f then tkD f else []) ∧ Own BK 5 w' v2 (if ackB heard f then layL true (tkN f) [] else []) ∧ (∀ g, v1.ownBlock = some g → w.heap.size ≤ g) ∧ (∀ g, v2.ownBlock = some g → w.heap.size ≤ g)

set_option maxHeartbeats 400000 in
set_option maxRecDepth 100000 in
theorem rrhear_any {w : World} {p o heard : Nat} {cs : Array Value} {t : TypeId} {v : Value} {f : List Nat} (h : RcqS p o cs t heard w) (hv : Rd BK w v f) (hl : f.length ≤ 1000000) (hx : ∀ x ∈ f, x < 256) :
    Calls Try.prog 26 #[.pointer (some ⟨p, o, none⟩), v] w (RRHearR p o cs t heard f w) := by
  obtain ⟨A, cap, rfl⟩ := hv.shape
  have hpl := lt_of_block h.blk
  have H := Lib.hid h; have HV := Lib.hid hv; have HX := Lib.hid hx
  obtain ⟨m, hm⟩ : ∃ m, m = tkN f := ⟨_, rfl⟩
  obtain ⟨b, hb⟩ : ∃ b, b = tkH f := ⟨_, rfl⟩
  obtain ⟨ok, hok⟩ : ∃ ok, ok = takeOk f := ⟨_, rfl⟩
  obtain ⟨er, her⟩ : ∃ er, er = tkE f := ⟨_, rfl⟩
  obtain ⟨n, hn⟩ : ∃ n, n = nxt heard := ⟨_, rfl⟩
  have h1 : (er != 0) = !ok := by rw [her, hok]; exact takeOk_E f
  have e2 : IntKind.u64.wrap ((heard : Int) + 1) = (n : Int) := by rw [hn]; exact nxt_wrap heard
  have hml : m < 18446744073709551615 := by rw [hm]; exact tkN_lt f
  obtain ⟨z, hz⟩ : ∃ z, z = decide (m = 0) := ⟨_, rfl⟩
  obtain ⟨gt, hgt⟩ : ∃ gt, gt = decide (n < m) := ⟨_, rfl⟩
  obtain ⟨ne, hne⟩ : ∃ ne, ne = !decide (m = n) := ⟨_, rfl⟩
  have z1 : ((m : Int) == 0) = z := by rw [hz]; by_cases q : m = 0 <;> simp [q]
  have g1 : decide ((n : Int) < (m : Int)) = gt := by rw [hgt]; by_cases q : n < m <;> simp [q]
  have g2 : decide (n < m) = gt := hgt.symm
  have n1 : ((m : Int) != (n : Int)) = ne := by
    rw [hne]
    by_cases q : m = n
    · simp [q]
    · have : (m : Int) ≠ (n : Int) := by omega
      simp [q, this]
  have hA : ackB heard f = (ok && !b && !z && !gt) := by
    unfold ackB; rw [← hm, ← hb, ← hok, hz, hgt, hn]
    by_cases q : m ≤ nxt heard
    · simp [q, show ¬ nxt heard < m by omega]
    · simp [q, show nxt heard < m by omega]
  have hF : freshB heard f = (ok && !b && !z && !gt && !ne) := by
    unfold freshB; rw [hA, ← hm, hne, ← hn]; simp
  have HA := Lib.hid hA; have HF := Lib.hid hF; have HM := Lib.hid hm; have HB := Lib.hid hb; have HER := Lib.hid her; have HN := Lib.hid hn; have HML := Lib.hid hml
  clear h hv hx hm hb hok her hn hz hgt hne hA hF hml
  have hcase : ok = false ∨ (ok = true ∧ b = true) ∨ (ok = true ∧ b = false ∧ z = true) ∨ (ok = true ∧ b = false ∧ z = false ∧ gt = true) ∨ (ok = true ∧ b = false ∧ z = false ∧ gt = false ∧ ne = true) ∨ (ok = true ∧ b = false ∧ z = false ∧ gt = false ∧ ne = false) := by
    cases ok <;> cases b <;> cases z <;> cases gt <;> cases ne <;> simp
  have no : ackB heard f = false → ∀ w', Kp No w w' → RRHearR p o cs t heard f w (.returned (.tuple #[.slice none 0 0, .bool false, .slice none 0 0])) w' := by
    intro e w' hk
    have e' : freshB heard f = false := by unfold freshB; rw [e]; rfl
    exact ⟨.slice none 0 0, .slice none 0 0, by rw [e'], hk.mono fun _ _ e => e.elim, by rw [e']; rw [show (if false = true then nxt heard else heard) = heard from rfl, set_same _ _ _ H.out.c0]; exact H.out.no hk, by rw [e']; exact Own.nil _ _ _, by rw [e]; exact Own.nil _ _ _, by simp [Value.ownBlock], by simp [Value.ownBlock]⟩
  have HNO := Lib.hid no
  clear no
  rcases hcase with rfl | ⟨rfl, rfl⟩ | ⟨rfl, rfl, rfl⟩ | ⟨rfl, rfl, rfl, rfl⟩ | ⟨rfl, rfl, rfl, rfl, rfl⟩ | ⟨rfl, rfl, rfl, rfl, rfl⟩
  · go_enter Try.func26, Try.ntmps26
    go_wp2_with fail
    refine (rtake_any HV.out hl HX.out).mono ?_
    rintro e w1 ⟨v1, rfl, k1⟩
    rw [← HM.out, ← HB.out, ← HER.out]
    obtain ⟨A1, cp1, rfl⟩ := k1.own.rd.shape
    have s1 := H.out.no k1.kp
    have c0 : w1.cell? ⟨p, o, none⟩ = some (.int .u64 (heard : Int)) := (blk_cell s1.blk o).trans s1.c0
    have f0 := blk_free s1.blk o
    have K1 := Lib.hid k1; have S1 := Lib.hid s1
    have hpl1 : p < w1.heap.size := lt_of_block s1.blk
    clear k1 s1
    go_wp2
    go_quiet (fail)
    go_wp2
    go_ret3
    exact HNO.out (by rw [HA.out]; rfl) _ ((K1.out.kp.alloc _).drewN _)
  · go_enter Try.func26, Try.ntmps26
    go_wp2_with fail
    refine (rtake_any HV.out hl HX.out).mono ?_
    rintro e w1 ⟨v1, rfl, k1⟩
    rw [← HM.out, ← HB.out, ← HER.out]
    obtain ⟨A1, cp1, rfl⟩ := k1.own.rd.shape
    have s1 := H.out.no k1.kp
    have c0 : w1.cell? ⟨p, o, none⟩ = some (.int .u64 (heard : Int)) := (blk_cell s1.blk o).trans s1.c0
    have f0 := blk_free s1.blk o
    have K1 := Lib.hid k1; have S1 := Lib.hid s1
    have hpl1 : p < w1.heap.size := lt_of_block s1.blk
    clear k1 s1
    go_wp2
    go_quiet (fail)
    go_wp2
    go_ret3
    exact HNO.out (by rw [HA.out]; rfl) _ ((K1.out.kp.alloc _).drewN _)
  · go_enter Try.func26, Try.ntmps26
    go_wp2_with fail
    refine (rtake_any HV.out hl HX.out).mono ?_
    rintro e w1 ⟨v1, rfl, k1⟩
    rw [← HM.out, ← HB.out, ← HER.out]
    obtain ⟨A1, cp1, rfl⟩ := k1.own.rd.shape
    have s1 := H.out.no k1.kp
    have c0 : w1.cell? ⟨p, o, none⟩ = some (.int .u64 (heard : Int)) := (blk_cell s1.blk o).trans s1.c0
    have f0 := blk_free s1.blk o
    have K1 := Lib.hid k1; have S1 := Lib.hid s1
    have hpl1 : p < w1.heap.size := lt_of_block s1.blk
    clear k1 s1
    go_wp2
    go_quiet (fail)
    go_wp2
    go_ret3
    exact HNO.out (by rw [HA.out]; rfl) _ ((K1.out.kp.alloc _).drewN _)
  · go_enter Try.func26, Try.ntmps26
    go_wp2_with fail
    refine (rtake_any HV.out hl HX.out).mono ?_
    rintro e w1 ⟨v1, rfl, k1⟩
    rw [← HM.out, ← HB.out, ← HER.out]
    obtain ⟨A1, cp1, rfl⟩ := k1.own.rd.shape
    have s1 := H.out.no k1.kp
    have c0 : w1.cell? ⟨p, o, none⟩ = some (.int .u64 (heard : Int)) := (blk_cell s1.blk o).trans s1.c0
    have f0 := blk_free s1.blk o
    have K1 := Lib.hid k1; have S1 := Lib.hid s1
    have hpl1 : p < w1.heap.size := lt_of_block s1.blk
    clear k1 s1
    go_wp2
    go_quiet (fail)
    go_wp2
    go_ret3
    exact HNO.out (by rw [HA.out]; rfl) _ ((K1.out.kp.alloc _).drewN _)
  · go_enter Try.func26, Try.ntmps26
    go_wp2_with fail
    refine (rtake_any HV.out hl HX.out).mono ?_
    rintro e w1 ⟨v1, rfl, k1⟩
    rw [← HM.out, ← HB.out, ← HER.out]
    obtain ⟨A1, cp1, rfl⟩ := k1.own.rd.shape
    have s1 := H.out.no k1.kp
    have c0 : w1.cell? ⟨p, o, none⟩ = some (.int .u64 (heard : Int)) := (blk_cell s1.blk o).trans s1.c0
    have f0 := blk_free s1.blk o
    have K1 := Lib.hid k1; have S1 := Lib.hid s1
    have hpl1 : p < w1.heap.size := lt_of_block s1.blk
    clear k1 s1
    go_wp2
    go_quiet (fail)
    obtain ⟨wq, hwq⟩ : ∃ wq, wq = (w1.alloc (.cells #[.bool false, .int .u64 (m : Int), .slice A1 (tkD f).length cp1] 25)).drewN nq := ⟨_, rfl⟩
    rw [← hwq]
    have kq : Kp No w1 wq := by rw [hwq]; exact ((Kp.refl _ _).alloc _).drewN _
    have bq : wq.heap[w1.heap.size]? = some (.cells #[.bool false, .int .u64 (m : Int), .slice A1 (tkD f).length cp1] 25 (0, 0)) := by rw [hwq]; exact blk_new w1 _
    clear hwq
    have d0 := kq.cellS c0 (no_no _)
    have d1 : wq.cell? ⟨w1.heap.size, 1, none⟩ = some (.int .u64 (m : Int)) := (blk_cell bq 1).trans rfl
    have KQ := Lib.hid kq; have BQ := Lib.hid bq
    clear kq bq
    go_wp2_with fail
    refine (rlay_any (Rd.nil BK wq) true m (Nat.lt_succ_of_lt HML.out) (fun x hx => by simp at hx)).mono ?_
    rintro e w2 ⟨v2, rfl, k2⟩
    obtain ⟨A2, cp2, rfl⟩ := k2.own.rd.shape
    have b2 := k2.kp.blk BQ.out (no_no _)
    have s2 := (S1.out.no KQ.out).no k2.kp
    have r0 : w2.cell? ⟨p, o, none⟩ = some (.int .u64 (heard : Int)) := (blk_cell s2.blk o).trans s2.c0
    have r1 := blk_free s2.blk o
    have t1 : w2.cell? ⟨w1.heap.size, 1, none⟩ = some (.int .u64 (m : Int)) := (blk_cell b2 1).trans rfl
    have t2 : w2.cell? ⟨w1.heap.size, 2, none⟩ = some (.slice A1 (tkD f).length cp1) := (blk_cell b2 2).trans rfl
    have K2 := Lib.hid k2; have S2 := Lib.hid s2
    have hp2 : p < w1.heap.size := hpl1
    clear k2 s2 b2
    go_wp2
    go_quiet (fail)
    go_wp2
    have hA : ackB heard f = true := by rw [HA.out]; rfl
    have hF : freshB heard f = false := by rw [HF.out]; rfl
    have kk : Kp No w2 (w2.drewN nq) := (Kp.refl _ _).drewN _
    have kw := ((K1.out.kp.trans KQ.out).trans K2.out.kp).trans kk
    go_ret3
    refine ⟨.slice none 0 0, .slice A2 (layL true m []).length cp2, by rw [hF]; rfl, kw.mono fun _ _ e => e.elim, ?_, ?_, ?_, by simp [Value.ownBlock], fun g hg => Nat.le_trans (K1.out.kp.trans KQ.out).size (K2.out.ge g hg)⟩
    · rw [hF, show (if false = true then nxt heard else heard) = heard from rfl, set_same _ _ _ H.out.c0]; exact S2.out.no kk
    · rw [hF]; exact Own.nil _ _ _
    · rw [hA, if_pos rfl, ← HM.out]; exact K2.out.own.kpNo kk
  · go_enter Try.func26, Try.ntmps26
    go_wp2_with fail
    refine (rtake_any HV.out hl HX.out).mono ?_
    rintro e w1 ⟨v1, rfl, k1⟩
    rw [← HM.out, ← HB.out, ← HER.out]
    obtain ⟨A1, cp1, rfl⟩ := k1.own.rd.shape
    have s1 := H.out.no k1.kp
    have c0 : w1.cell? ⟨p, o, none⟩ = some (.int .u64 (heard : Int)) := (blk_cell s1.blk o).trans s1.c0
    have f0 := blk_free s1.blk o
    have K1 := Lib.hid k1; have S1 := Lib.hid s1
    have hpl1 : p < w1.heap.size := lt_of_block s1.blk
    clear k1 s1
    go_wp2
    go_quiet (fail)
    obtain ⟨wq, hwq⟩ : ∃ wq, wq = (w1.alloc (.cells #[.bool false, .int .u64 (m : Int), .slice A1 (tkD f).length cp1] 25)).drewN nq := ⟨_, rfl⟩
    rw [← hwq]
    have kq : Kp No w1 wq := by rw [hwq]; exact ((Kp.refl _ _).alloc _).drewN _
    have bq : wq.heap[w1.heap.size]? = some (.cells #[.bool false, .int .u64 (m : Int), .slice A1 (tkD f).length cp1] 25 (0, 0)) := by rw [hwq]; exact blk_new w1 _
    clear hwq
    have d0 := kq.cellS c0 (no_no _)
    have d1 : wq.cell? ⟨w1.heap.size, 1, none⟩ = some (.int .u64 (m : Int)) := (blk_cell bq 1).trans rfl
    have KQ := Lib.hid kq; have BQ := Lib.hid bq
    clear kq bq
    go_wp2_with fail
    refine (rlay_any (Rd.nil BK wq) true m (Nat.lt_succ_of_lt HML.out) (fun x hx => by simp at hx)).mono ?_
    rintro e w2 ⟨v2, rfl, k2⟩
    obtain ⟨A2, cp2, rfl⟩ := k2.own.rd.shape
    have b2 := k2.kp.blk BQ.out (no_no _)
    have s2 := (S1.out.no KQ.out).no k2.kp
    have r0 : w2.cell? ⟨p, o, none⟩ = some (.int .u64 (heard : Int)) := (blk_cell s2.blk o).trans s2.c0
    have r1 := blk_free s2.blk o
    have t1 : w2.cell? ⟨w1.heap.size, 1, none⟩ = some (.int .u64 (m : Int)) := (blk_cell b2 1).trans rfl
    have t2 : w2.cell? ⟨w1.heap.size, 2, none⟩ = some (.slice A1 (tkD f).length cp1) := (blk_cell b2 2).trans rfl
    have K2 := Lib.hid k2; have S2 := Lib.hid s2
    have hp2 : p < w1.heap.size := hpl1
    clear k2 s2 b2
    go_wp2
    go_quiet (fail)
    go_wp2
    have hA : ackB heard f = true := by rw [HA.out]; rfl
    have hF : freshB heard f = true := by rw [HF.out]; rfl
    have kk : Kp No w2 (w2.drewN nq) := (Kp.refl _ _).drewN _
    have kw := ((K1.out.kp.trans KQ.out).trans K2.out.kp).trans kk
    have k1 := Kp.one (w := w2.drewN nq) (p := p) o (.int .u64 (n : Int))
    have hnx : n < 18446744073709551616 := by rw [HN.out]; exact Nat.mod_lt _ (by decide)
    have hpw : p < w.heap.size := hpl
    go_ret3
    refine ⟨.slice A1 (tkD f).length cp1, .slice A2 (layL true m []).length cp2, by rw [hF]; rfl, (kw.mono (S2 := fun k => k = p) fun _ _ e => e.elim).trans k1, ?_, ?_, ?_, fun g hg => K1.out.ge g hg, fun g hg => Nat.le_trans (K1.out.kp.trans KQ.out).size (K2.out.ge g hg)⟩
    · rw [hF, if_pos rfl, ← HN.out]; exact ⟨blk_set (S2.out.no kk).blk o _, by have := (Array.getElem?_eq_some_iff.1 H.out.c0).1; simp [Array.getElem?_setIfInBounds, this], hnx⟩
    · rw [hF, if_pos rfl]; exact (((K1.out.own.kpNo KQ.out).kpNo K2.out.kp).kpNo kk).kp k1 fun g hg e => by have e : g = p := e; have := K1.out.ge g hg; omega
    · rw [hA, if_pos rfl, ← HM.out]; exact (K2.out.own.kpNo kk).kp k1 fun g hg e => by have e : g = p := e; have := Nat.le_trans (K1.out.kp.trans KQ.out).size (K2.out.ge g hg); omega
end Go.Proofs.Ytnejjjoedmefkaa
