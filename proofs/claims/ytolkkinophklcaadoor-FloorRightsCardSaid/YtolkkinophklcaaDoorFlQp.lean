/- carfaxref03.Parse. -/
import Derived.Test.YtolkkinophklcaaDoorFlQv
import Derived.Test.YtolkkinophklcaaDoorFlQn
import Derived.StillTailTactics
namespace Go.Proofs.YtolkkinophklcaaDoor
set_option linter.unusedVariables false
set_option linter.unusedSimpArgs false
open Go.RowKit

structure QpW (R : List ByteArray) (v : Value) (b6 m : Nat) (x : Int) (S : ByteArray) (w wx : World) : Prop where
  bf : wx.heap[w.heap.size]? = some (.cells #[.int .i64 0, .int .i64 0, .string ⟨#[]⟩] 24 (0, 0))
  blk : wx.heap[b6]? = some (.cells #[.int .i64 x, .int .i64 (m : Int), .string S] 24 (0, 0))
  own : Own SRK 9 wx v R
  kp : Kp No w wx
  lt : w.heap.size < b6 ∧ v.ownBlock ≠ some b6
section
variable {R : List ByteArray} {v : Value} {b6 m : Nat} {x y : Int} {S T : ByteArray} {w wx w' : World}
theorem QpW.no (h : QpW R v b6 m x S w wx) (hk : Kp No wx w') : QpW R v b6 m x S w w' := ⟨hk.blk h.bf (no_no _), hk.blk h.blk (no_no _), h.own.kpNo hk, h.kp.no hk, h.lt⟩
theorem QpW.put0 (h : QpW R v b6 m x S w wx) (y : Int) : QpW R v b6 m y S w (wx.setCell ⟨b6, 0, none⟩ (.int .i64 y)) :=
  ⟨blk_far h.bf (by have := h.lt.1; show w.heap.size ≠ b6; omega) _, by have := blk_set h.blk 0 (.int .i64 y); simpa using this,
    h.own.kp ((Kp.refl (fun k => k = b6) wx).setCell (fun _ => rfl) _) (fun g hg e => h.lt.2 (e ▸ hg)), h.kp.setCell (fun e => by have e : b6 < w.heap.size := e; have := h.lt.1; omega) _, h.lt⟩
theorem QpW.put2 (h : QpW R v b6 m x S w wx) (T : ByteArray) : QpW R v b6 m x T w (wx.setCell ⟨b6, 2, none⟩ (.string T)) :=
  ⟨blk_far h.bf (by have := h.lt.1; show w.heap.size ≠ b6; omega) _, by have := blk_set h.blk 2 (.string T); simpa using this,
    h.own.kp ((Kp.refl (fun k => k = b6) wx).setCell (fun _ => rfl) _) (fun g hg e => h.lt.2 (e ▸ hg)), h.kp.setCell (fun e => by have e : b6 < w.heap.size := e; have := h.lt.1; omega) _, h.lt⟩
end
theorem joinB_snoc {R : List ByteArray} {k : Nat} {r : ByteArray} (h : R[k]? = some r) : joinB (R.take (k + 1)) = joinB (R.take k) ++ r := by
  unfold joinB
  rw [List.take_add_one, h, Option.toList_some, List.map_append, List.flatten_append]
  have e : ∀ a b : List UInt8, mkB (a ++ b) = mkB a ++ mkB b := by intro a b; unfold mkB; rw [ByteArray.mk_append_mk]
  rw [e]; congr 1
  simp [mkB_data]
theorem rows_flat (s : ByteArray) : ((rowsB s).map (·.data.toList)).flatten.length ≤ s.size := by
  obtain ⟨L, cur, hpc, X, m, pr, hm⟩ := prR s
  rw [← pr.rows]; exact pr.flat
theorem rows_sz (s : ByteArray) (i : Nat) (r : ByteArray) (h : (rowsB s)[i]? = some r) : r.size ≤ s.size := by
  obtain ⟨L, cur, hpc, X, m, pr, hm⟩ := prR s
  rw [← pr.rows] at h; exact pr.sz i r h
theorem rows_len (s : ByteArray) : (rowsB s).length ≤ s.size + 1 := by
  obtain ⟨L, cur, hpc, X, m, pr, hm⟩ := prR s
  rw [← pr.rows, ← pr.lm]; exact Nat.le_trans pr.le pr.n1le
theorem joinB_take_le (R : List ByteArray) (k : Nat) : (joinB (R.take k)).size ≤ (R.map (·.data.toList)).flatten.length := by
  unfold joinB
  rw [mkB_size]
  have h : (R.map (·.data.toList)).flatten.length = ((R.take k).map (·.data.toList)).flatten.length + ((R.drop k).map (·.data.toList)).flatten.length := by
    rw [← List.length_append, ← List.flatten_append, ← List.map_append, List.take_append_drop]
  omega

set_option maxHeartbeats 2000000 in
set_option maxRecDepth 100000 in
theorem qparse_any (s : ByteArray) (hs : s.size ≤ 900000) (w : World) : Calls Tryd.prog 12 #[.string s] w (ParseR s w) := by
  unfold ParseR
  obtain ⟨V, hV⟩ : ∃ V, V = PVal (parseP s) := ⟨_, rfl⟩
  rw [← hV]
  have HV := Lib.hid hV
  clear hV
  have HQR := Lib.hid (qrows_any s hs)
  have HFL := Lib.hid (rows_flat s); have HSZ := Lib.hid (rows_sz s); have HLN := Lib.hid (rows_len s)
  obtain ⟨R, hR⟩ : ∃ R, R = rowsB s := ⟨_, rfl⟩
  rw [← hR] at HQR HFL HSZ HLN
  have HPP : Hid (parseP s = match badRow R with
    | some y => (Flr.zero, y, 30)
    | none => if rightB ⟨(R.getD 0 ByteArray.empty).size, R.length, joinB R⟩ = true then (⟨(R.getD 0 ByteArray.empty).size, R.length, joinB R⟩, 0, 0) else (Flr.zero, R.length, 30)) := Lib.hid (by rw [hR]; rfl)
  clear hR
  go_enter Tryd.func12, Tryd.ntmps12
  go_wp2_with fail
  refine (HQR.out _).mono ?_
  rintro e w3 ⟨v, rfl, ns⟩
  obtain ⟨A, q, rfl⟩ := ns.own.rd.shape
  obtain ⟨m, hm⟩ : ∃ m, m = R.length := ⟨_, rfl⟩
  have hm2 : m ≤ 900001 := by have := HLN.out; omega
  rw [← hm] at ns ⊢
  obtain ⟨b6, hb6⟩ : ∃ b6, b6 = w3.heap.size := ⟨_, rfl⟩
  obtain ⟨w4, hw4⟩ : ∃ w4, w4 = w3.alloc (.cells #[.int .i64 0, .int .i64 (m : Int), .string ⟨#[]⟩] 24) := ⟨_, rfl⟩
  have Q0 := Lib.hid (show QpW R (.slice A m q) b6 m 0 ⟨#[]⟩ w w4 by
    have k0 : Kp No (w.alloc (.cells #[.int .i64 0, .int .i64 0, .string ⟨#[]⟩] 24)) w3 := ns.kp
    have hz := k0.size
    rw [hw4, hb6]
    refine ⟨blk_alloc (k0.blk (blk_new w _) (no_no _)) _, blk_new w3 _, ns.own.alloc _, (((Kp.refl No w).alloc _).no k0).alloc _, by simp at hz; omega, fun e => ?_⟩
    have := ns.own.lt e; omega)
  have HM := Lib.hid hm
  have HRF := Lib.hid (show ∀ (i : Nat) r, R[i]? = some r → r.size ≤ 900000 from fun i r h => Nat.le_trans (HSZ.out i r h) hs)
  have HFL2 := Lib.hid (Nat.le_trans HFL.out hs)
  clear ns hm hs HFL HSZ HLN
  go_wp2_with fail
  rw [← hw4, ← hb6]
  clear hw4 hb6
  go_loopg [7] (m + 1) (fun g2 iv wx => ∃ (i : Nat) (x : Int) (S : ByteArray), g2 = m + 1 - i ∧ iv = .int .i64 i ∧ i ≤ m ∧ (∀ (j : Nat) r f, j < i → R[j]? = some r → R[0]? = some f → mayB r f j = true) ∧ (i = 0 → x = 0) ∧ (0 < i → ∀ f, R[0]? = some f → x = (f.size : Int)) ∧ S = joinB (R.take i) ∧ QpW R (.slice A m q) b6 m x S w wx)
  case atStart => exact ⟨0, 0, ⟨#[]⟩, rfl, rfl, by omega, fun j r f hj => by omega, fun _ => rfl, fun h => by omega, rfl, Q0.out⟩
  case round =>
    obtain ⟨i, x, S, hg2, rfl, hi, hz, hx0, hx1, hS, qp⟩ := hrel
    have HZ := Lib.hid hz; have HX0 := Lib.hid hx0; have HX1 := Lib.hid hx1; have HS := Lib.hid hS; have QP := Lib.hid qp
    have hSs : S.size ≤ 900000 := by rw [hS]; exact Nat.le_trans (joinB_take_le R i) HFL2.out
    clear hz hx0 hx1 hS qp
    by_cases hlt : i < m
    · have hltI : (i : Int) < (m : Int) := by omega
      have hwi : IntKind.i64.wrap ((i : Int) + 1) = (i : Int) + 1 := IntWalk.i64_in _ (by omega)
      obtain ⟨r, hr⟩ : ∃ r, R[i]? = some r := ⟨_, List.getElem?_eq_getElem (by rw [← HM.out]; exact hlt)⟩
      obtain ⟨f, hf⟩ : ∃ f, R[0]? = some f := ⟨_, List.getElem?_eq_getElem (by rw [← HM.out]; omega)⟩
      have hrs := HRF.out i r hr
      have hfs := HRF.out 0 f hf
      have hm0 : (0 : Nat) < m := by omega
      obtain ⟨b, hb⟩ : ∃ b, mayB r f i = b := ⟨_, rfl⟩
      have hmy := qwrong_any QP.out.own i r f hr hf (by omega) (by omega) (by omega)
      rw [hb] at hmy
      have HMY := Lib.hid hmy
      have HB := Lib.hid hb; have HRR := Lib.hid hr; have HFF := Lib.hid hf
      clear hmy hb hr hf hlt
      cases b with
      | false =>
        have HE := Lib.hid (show V = .tuple #[.agg #[.int .i64 0, .int .i64 0, .string ⟨#[]⟩], .int .i64 (i : Int), .int .i64 30] by
          rw [HV.out, HPP.out, badRow_some HRR.out HFF.out HB.out (fun j r hj hr => HZ.out j r f hj hr HFF.out)]; rfl)
        go_wp2_with fail
        refine HMY.out.mono ?_
        rintro e w5 ⟨rfl, k5⟩
        have Q5 := QP.out.no k5
        have hf0 : w5.frozen? ⟨w.heap.size, 0, none⟩ = false := blk_free Q5.bf 0
        have hf1 : w5.frozen? ⟨w.heap.size, 1, none⟩ = false := blk_free Q5.bf 1
        have hf2 : w5.frozen? ⟨w.heap.size, 2, none⟩ = false := blk_free Q5.bf 2
        have hg0 : w5.cell? ⟨w.heap.size, 0, none⟩ = some (.int .i64 0) := blk_cell Q5.bf 0
        have hg1 : w5.cell? ⟨w.heap.size, 1, none⟩ = some (.int .i64 0) := blk_cell Q5.bf 1
        have hg2 : w5.cell? ⟨w.heap.size, 2, none⟩ = some (.string ⟨#[]⟩) := blk_cell Q5.bf 2
        have hs0 := fun v => box_set (i := 0) Q5.bf (by decide) v
        have hs1 := fun v0 v => box_set (i := 1) (blk_set Q5.bf 0 v0) (by simp) v
        have hs2 := fun v0 v1 v => box_set (i := 2) (blk_set (blk_set Q5.bf 0 v0) 1 v1) (by simp) v
        have KE := Lib.hid (fun (v0 v1 v2 : Value) => show Kp No w (((w5.setCell ⟨w.heap.size, 0, none⟩ v0).setCell ⟨w.heap.size, 1, none⟩ v1).setCell ⟨w.heap.size, 2, none⟩ v2) from
          ((Q5.kp.setCell (fun e => absurd e (Nat.lt_irrefl _)) _).setCell (fun e => absurd e (Nat.lt_irrefl _)) _).setCell (fun e => absurd e (Nat.lt_irrefl _)) _)
        clear k5 Q5
        go_wp2_with fail
        exact bodyPost_ret (v := .tuple #[.agg #[.int .i64 0, .int .i64 0, .string ⟨#[]⟩], .int .i64 (i : Int), .int .i64 30]) (by simp [results, Tryd.results12, go_sem, hs0, hs1, hs2]) rfl ⟨by rw [HE.out], KE.out _ _ _⟩
      | true =>
        have HZ2 := Lib.hid (show ∀ (j : Nat) r f, j < i + 1 → R[j]? = some r → R[0]? = some f → mayB r f j = true by
          intro j r' f' hj hr hf
          rcases Nat.lt_or_ge j i with h | h
          · exact HZ.out j r' f' h hr hf
          · obtain rfl : j = i := by omega
            have e1 := HRR.out; have e2 := HFF.out
            rw [hr] at e1; rw [hf] at e2
            cases e1; cases e2
            exact HB.out)
        go_wp2_with fail
        refine HMY.out.mono ?_
        rintro e w5 ⟨rfl, k5⟩
        have Q5 := Lib.hid (QP.out.no k5)
        have hown := Q5.out.own
        rcases hown.b with ⟨_, he⟩ | ⟨g, cap, hv, _, _, _⟩
        · have := HRR.out; rw [he] at this; simp at this
        simp only [Value.slice.injEq] at hv
        obtain ⟨rfl, hzz, rfl⟩ := hv
        clear hzz
        have hcf : w5.cell? ⟨g, 0, none⟩ = some (.string f) := by have := strAt hown.rd HFF.out; simpa using this
        have h60 : w5.cell? ⟨b6, 0, none⟩ = some (.int .i64 x) := blk_cell Q5.out.blk 0
        have h6f : w5.frozen? ⟨b6, 0, none⟩ = false := blk_free Q5.out.blk 0
        obtain ⟨z, hzf⟩ : ∃ z, z = f.size := ⟨_, rfl⟩
        have hzI : ((f.size : Nat) : Int) = (z : Int) := by omega
        have HZF := Lib.hid hzf
        clear k5 hown hzf
        go_wp2_with fail
        have Q6 := Lib.hid (Q5.out.put0 (z : Int))
        obtain ⟨w6, hw6⟩ : ∃ w6, w6 = w5.setCell ⟨b6, 0, none⟩ (.int .i64 (z : Int)) := ⟨_, rfl⟩
        rw [← hw6] at Q6
        rw [← hw6]
        clear hw6 hcf h60 h6f Q5
        have hcr : w6.cell? ⟨g, i, none⟩ = some (.string r) := by have := strAt Q6.out.own.rd HRR.out; simpa using this
        have h62 : w6.cell? ⟨b6, 2, none⟩ = some (.string S) := blk_cell Q6.out.blk 2
        have hadd : S.size + r.size ≤ 9223372036854775807 := by omega
        have hadd2 : ¬ (9223372036854775807 < S.size + r.size) := by omega
        have hop := fun w => run_string_add_sum (P := Tryd.prog) w S r hadd
        go_still_tail 8, (by kernel_rfl)
        change wpList _ _ _ _ _ w6.drew
        have Q7 := Lib.hid (show QpW R (.slice (some ⟨g, 0, none⟩) m q) b6 m (z : Int) S w w6.drew from Q6.out.no (Kp.refl _ _).drew)
        clear Q6 hcr h62
        generalize w6.drew = w7 at *
        have h62 : w7.cell? ⟨b6, 2, none⟩ = some (.string S) := blk_cell Q7.out.blk 2
        have h6f : w7.frozen? ⟨b6, 2, none⟩ = false := blk_free Q7.out.blk 2
        have Q8 := Lib.hid (Q7.out.put2 (S ++ r))
        have HS2 := Lib.hid (show S ++ r = joinB (R.take (i + 1)) by rw [HS.out, joinB_snoc HRR.out])
        have HX2 := Lib.hid (show ∀ f', R[0]? = some f' → (z : Int) = (f'.size : Int) by
          intro f' hf'
          have := HFF.out
          rw [hf'] at this; cases this
          rw [HZF.out])
        go_wp2_with fail
        go_roundg (m + 1 - (i + 1))
        case measure => omega
        case rel => exact ⟨i + 1, (z : Int), _, rfl, by go_num, by omega, HZ2.out, fun h => by omega, fun _ => HX2.out, HS2.out, Q8.out⟩
    · obtain rfl : i = m := by omega
      have hd0 : ¬ (i : Int) < (i : Int) := by omega
      have h60 : wr.cell? ⟨b6, 0, none⟩ = some (.int .i64 x) := blk_cell QP.out.blk 0
      have h61 : wr.cell? ⟨b6, 1, none⟩ = some (.int .i64 (i : Int)) := blk_cell QP.out.blk 1
      have h62 : wr.cell? ⟨b6, 2, none⟩ = some (.string S) := blk_cell QP.out.blk 2
      obtain ⟨t, ht⟩ : ∃ t, rightB ⟨x, (i : Int), S⟩ = t := ⟨_, rfl⟩
      have HRT := Lib.hid (qright_at ⟨x, (i : Int), S⟩ (by show S.size ≤ _; omega) t ht)
      have HEE := Lib.hid (show V = PVal (if t = true then (⟨x, (i : Int), S⟩, 0, 0) else (Flr.zero, i, 30)) by
        rw [HV.out, HPP.out]
        have hST : S = joinB R := by rw [HS.out, HM.out, List.take_length]
        rcases Nat.eq_zero_or_pos i with h0 | h0
        · have hR0 : R = [] := List.eq_nil_of_length_eq_zero (by rw [← HM.out, h0])
          have hx := HX0.out h0
          have hb : badRow R = none := by rw [hR0]; rfl
          rw [hb]
          simp only
          have ht2 : t = false := by rw [← ht, hx]; exact rightB_f fun r => by have := r.w1; simp at this
          have hb2 : rightB ⟨((R.getD 0 ByteArray.empty).size : Int), R.length, joinB R⟩ = false := rightB_f (fun r => by have := r.w1; rw [hR0] at this; simp at this)
          rw [hb2, ht2, ← HM.out]; rfl
        · obtain ⟨f, hf⟩ : ∃ f, R[0]? = some f := ⟨_, List.getElem?_eq_getElem (by rw [← HM.out]; omega)⟩
          have hb : badRow R = none := badRow_none hf (fun j r hj hr => HZ.out j r f (by rw [HM.out]; exact hj) hr hf)
          rw [hb]
          simp only
          have hx := HX1.out h0 f hf
          have hg : R.getD 0 ByteArray.empty = f := by simp [hf]
          rw [hg, ← HM.out, ← hST, ← hx, ht])
      clear hlt ht
      go_wp2_with fail
      refine (HRT.out _).mono ?_
      rintro e w5 ⟨rfl, k5⟩
      have Q5 := QP.out.no k5
      have hf0 : w5.frozen? ⟨w.heap.size, 0, none⟩ = false := blk_free Q5.bf 0
      have hf1 : w5.frozen? ⟨w.heap.size, 1, none⟩ = false := blk_free Q5.bf 1
      have hf2 : w5.frozen? ⟨w.heap.size, 2, none⟩ = false := blk_free Q5.bf 2
      have hg0 : w5.cell? ⟨w.heap.size, 0, none⟩ = some (.int .i64 0) := blk_cell Q5.bf 0
      have hg1 : w5.cell? ⟨w.heap.size, 1, none⟩ = some (.int .i64 0) := blk_cell Q5.bf 1
      have hg2 : w5.cell? ⟨w.heap.size, 2, none⟩ = some (.string ⟨#[]⟩) := blk_cell Q5.bf 2
      have hs0 := fun v => box_set (i := 0) Q5.bf (by decide) v
      have hs1 := fun v0 v => box_set (i := 1) (blk_set Q5.bf 0 v0) (by simp) v
      have hs2 := fun v0 v1 v => box_set (i := 2) (blk_set (blk_set Q5.bf 0 v0) 1 v1) (by simp) v
      have h60 : w5.cell? ⟨b6, 0, none⟩ = some (.int .i64 x) := blk_cell Q5.blk 0
      have h61 : w5.cell? ⟨b6, 1, none⟩ = some (.int .i64 (i : Int)) := blk_cell Q5.blk 1
      have h62 : w5.cell? ⟨b6, 2, none⟩ = some (.string S) := blk_cell Q5.blk 2
      have KE := Lib.hid (fun (v0 v1 v2 : Value) => show Kp No w (((w5.setCell ⟨w.heap.size, 0, none⟩ v0).setCell ⟨w.heap.size, 1, none⟩ v1).setCell ⟨w.heap.size, 2, none⟩ v2) from
        ((Q5.kp.setCell (fun e => absurd e (Nat.lt_irrefl _)) _).setCell (fun e => absurd e (Nat.lt_irrefl _)) _).setCell (fun e => absurd e (Nat.lt_irrefl _)) _)
      clear k5 Q5
      cases t with
      | true =>
        have HE := Lib.hid (show V = .tuple #[.agg #[.int .i64 x, .int .i64 (i : Int), .string S], .int .i64 0, .int .i64 0] by rw [HEE.out]; rfl)
        go_wp2_with fail
        exact bodyPost_ret (v := .tuple #[.agg #[.int .i64 x, .int .i64 (i : Int), .string S], .int .i64 0, .int .i64 0]) (by simp [results, Tryd.results12, go_sem, hs0, hs1, hs2]) rfl ⟨by rw [HE.out], KE.out _ _ _⟩
      | false =>
        have HE := Lib.hid (show V = .tuple #[.agg #[.int .i64 0, .int .i64 0, .string ⟨#[]⟩], .int .i64 (i : Int), .int .i64 30] by rw [HEE.out]; rfl)
        go_wp2_with fail
        exact bodyPost_ret (v := .tuple #[.agg #[.int .i64 0, .int .i64 0, .string ⟨#[]⟩], .int .i64 (i : Int), .int .i64 30]) (by simp [results, Tryd.results12, go_sem, hs0, hs1, hs2]) rfl ⟨by rw [HE.out], KE.out _ _ _⟩
end Go.Proofs.YtolkkinophklcaaDoor
