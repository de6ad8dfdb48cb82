/- carfaxtop.floors: the floor of a text of up to 60 bytes, or another one; TopPlans: the walk; Arguments of carfaxtop: wishes. No condition. -/
import Derived.Test.YtgdokpfepfmbmaaDoorM4
import Derived.Test.YtgdokpfepfmbmaaDoorM11
import Derived.Deep.RegionHeld3

namespace Go.Proofs.YtgdokpfepfmbmaaDoor
set_option linter.unusedVariables false
set_option linter.unusedSimpArgs false
open Go.RowKit

theorem pcs_flatL (l : List UInt8) : (pcs l).flatten.length ≤ l.length := by
  induction l with
  | nil => simp [pcs]
  | cons c l ih =>
    unfold pcs
    split
    · simp only [List.flatten_cons, List.nil_append, List.length_cons]; omega
    · split
      · rename_i h; simp
      · rename_i p ps h
        rw [h] at ih
        simp only [List.flatten_cons, List.length_append, List.length_cons] at ih ⊢
        omega
theorem rowsL_flat (l : List UInt8) : (rowsL l).flatten.length ≤ l.length := by
  have h := pcs_flatL l
  obtain ⟨L, cur, e⟩ : ∃ L cur, pcs l = L ++ [cur] := ⟨_, _, (List.dropLast_concat_getLast (pcs_ne l)).symm⟩
  rw [rowsL_of e]
  rw [e] at h
  split
  · simp only [List.flatten_append, List.length_append] at h
    omega
  · exact h
theorem parseP_size (s : ByteArray) : (parseP s).1.s.size ≤ s.size := by
  have h : (joinB (rowsB s)).size ≤ s.size := by
    unfold joinB rowsB
    rw [mkB_size, List.map_map]
    have e : ((fun x : ByteArray => x.data.toList) ∘ mkB) = id := by funext x; exact mkB_list x
    rw [e, List.map_id, Lib.size_eq s]
    exact rowsL_flat _
  unfold parseP
  cases h1 : badRow (rowsB s) with
  | some y => simp only; show (0 : Nat) ≤ _; omega
  | none =>
    simp only
    split
    · exact h
    · show (0 : Nat) ≤ _; omega
theorem rightB_pos {f : Flr} (h : rightB f = true) : 0 < f.s.size := by
  have r := rightB_iff.1 h
  have := Int.mul_pos (show 0 < f.W by have := r.w1; omega) (show 0 < f.H by have := r.h1; omega)
  have := r.len
  omega
def fT3 : Flr := ⟨5, 3, ⟨#[48, 97, 97, 98, 49, 35, 99, 35, 100, 35, 50, 101, 101, 102, 102]⟩⟩
theorem fT3_right : rightB fT3 = true := rightC_ok (W := 5) (H := 3) (by kernel_rfl)
theorem parse_T3 : parseP ⟨#[48, 97, 97, 98, 49, 10, 35, 99, 35, 100, 35, 10, 50, 101, 101, 102, 102, 10]⟩ = (fT3, 0, 0) := parseP_of (W := 5) (H := 3) (R := [⟨#[48, 97, 97, 98, 49]⟩, ⟨#[35, 99, 35, 100, 35]⟩, ⟨#[50, 101, 101, 102, 102]⟩]) (by kernel_rfl) (by kernel_rfl) (by kernel_rfl) (by kernel_rfl) (by kernel_rfl) (by kernel_rfl)
theorem run_slice_str (s : ByteArray) (hi : Nat) (h : hi ≤ s.size) (x : Int) (hx : x = hi) (w : World) : (Instr.slice 9 (.string s) none (some (.int .i64 x)) none).run Tryd.prog w = .ok (.string (s.extract 0 hi)) w := by
  subst hx
  simp [Instr.slice, Instr.sliceBounds, Instr.sliceBound, run_underlying Tryd.underlying9, asIntOf, h]
set_option maxHeartbeats 2000000 in
set_option maxRecDepth 100000 in
theorem topFloors_any (s : ByteArray) (hs : s.size ≤ 9223372036854775807) (w : World) : Calls Tryd.prog 31 #[.string s] w fun e w' => ∃ f : Flr, e = .returned (.tuple #[f.val, .bool true]) ∧ f.s.size ≤ 60 ∧ rightB f = true ∧ Kp No w w' := by
  obtain ⟨n, hn⟩ : ∃ n, n = s.size := ⟨_, rfl⟩
  have hnI : ((s.size : Nat) : Int) = (n : Int) := by omega
  obtain ⟨hi, hhi⟩ : ∃ h, h = min n 60 := ⟨_, rfl⟩
  have hmi : min (n : Int) 60 = (hi : Int) := by omega
  have hsl := fun w => run_slice_str s hi (by omega) (hi : Int) rfl w
  obtain ⟨s6, hs6⟩ : ∃ x, x = s.extract 0 hi := ⟨_, rfl⟩
  have hs6s : s6.size ≤ 60 := by rw [hs6, ByteArray.size_extract]; omega
  rw [← hs6] at hsl
  obtain ⟨⟨f1, y1, e1⟩, hpp⟩ : ∃ r, parseP s6 = r := ⟨_, rfl⟩
  have PA := Lib.hid (parse_at s6 (by omega) _ hpp (.tuple #[.agg #[.int .i64 f1.W, .int .i64 f1.H, .string f1.s], .int .i64 (y1 : Int), .int .i64 (e1 : Int)]) rfl)
  have PB := Lib.hid (parse_at _ (by decide) _ parse_T3 (.tuple #[.agg #[.int .i64 5, .int .i64 3, .string fT3.s], .int .i64 0, .int .i64 0]) rfl)
  have HF1 := Lib.hid (show f1.s.size ≤ 60 ∧ (e1 = 0 → rightB f1 = true) by
    have h1 := parseP_size s6
    have h2 := @parseP_ok s6
    rw [hpp] at h1 h2
    exact ⟨by simp only at h1; omega, h2⟩)
  simp only [fT3] at PB
  obtain ⟨S3, hS3⟩ : ∃ S, S = fT3.s := ⟨_, rfl⟩
  rw [show (⟨#[48, 97, 97, 98, 49, 35, 99, 35, 100, 35, 50, 101, 101, 102, 102]⟩ : ByteArray) = S3 from hS3.symm] at PB
  have HS3 := Lib.hid hS3
  clear hn hhi hs6 hs6s hpp hs hS3
  obtain ⟨wz, hwz⟩ : ∃ y : World, y = w.alloc (.cells #[.int .i64 0, .int .i64 0, .string ⟨#[]⟩] 23) := ⟨_, rfl⟩
  have BZ := Lib.hid (show wz.heap[w.heap.size]? = some (.cells #[.int .i64 0, .int .i64 0, .string ⟨#[]⟩] 23 (0, 0)) by rw [hwz]; exact blk_new w _)
  have KZ := Lib.hid (show Kp No w wz by rw [hwz]; exact (Kp.refl _ _).alloc _)
  have HWZ := Lib.hid hwz
  clear hwz
  by_cases he : e1 = 0
  · subst he
    have HR := Lib.hid (HF1.out.2 rfl)
    have hpos : 0 < f1.s.size := rightB_pos HR.out
    have HSZ := Lib.hid (show f1.s.size ≤ 60 ∧ rightB f1 = true from ⟨HF1.out.1, HR.out⟩)
    obtain ⟨F1, hF1⟩ : ∃ F, F = f1 := ⟨_, rfl⟩
    rw [← hF1] at HSZ
    have HFF := Lib.hid hF1.symm
    obtain ⟨X, Y, q⟩ := f1
    simp only at PA hpos
    clear hF1 HF1 HR
    go_enter Tryd.func31, Tryd.ntmps31
    go_upto_region 1 with fail
    rw [← HWZ.out]
    go_wp2_with fail
    refine (PA.out _).mono ?_
    rintro e w1 ⟨rfl, k1⟩
    have K1 := Lib.hid k1
    clear k1
    go_upto_region 4 with fail
    obtain ⟨w9, hw9⟩ : ∃ y : World, y = w1.alloc (.cells #[.int .i64 X, .int .i64 Y, .string q] 23) := ⟨_, rfl⟩
    obtain ⟨b4, hb4⟩ : ∃ b, b = w1.heap.size := ⟨_, rfl⟩
    rw [← hw9, ← hb4]
    have b49 : w9.heap[b4]? = some (.cells #[.int .i64 X, .int .i64 Y, .string q] 23 (0, 0)) := by rw [hw9, hb4]; exact blk_new w1 _
    have k19 : Kp No w1 w9 := by rw [hw9]; exact (Kp.refl _ _).alloc _
    have bz9 := (K1.out.no k19).blk BZ.out (no_no _)
    have k9 := KZ.out.no (K1.out.no k19)
    have HLT4 := Lib.hid (show w.heap.size < b4 by have := lt_of_block BZ.out; have := K1.out.size; omega)
    clear hw9 hb4 k19
    have BZ9 := Lib.hid bz9; have B49 := Lib.hid b49; have K9 := Lib.hid k9
    have hne : ¬ b4 = w.heap.size := by have := HLT4.out; omega
    have hne2 : ¬ w.heap.size = b4 := by have := HLT4.out; omega
    clear bz9 b49 k9
    have hc0 : w9.cell? ⟨b4, 0, none⟩ = some (.int .i64 X) := blk_cell B49.out 0
    have hc1 : w9.cell? ⟨b4, 1, none⟩ = some (.int .i64 Y) := blk_cell B49.out 1
    have hc2 : w9.cell? ⟨b4, 2, none⟩ = some (.string q) := blk_cell B49.out 2
    have hf0 : w9.frozen? ⟨w.heap.size, 0, none⟩ = false := blk_free BZ9.out 0
    have hf1 : w9.frozen? ⟨w.heap.size, 1, none⟩ = false := blk_free BZ9.out 1
    have hf2 : w9.frozen? ⟨w.heap.size, 2, none⟩ = false := blk_free BZ9.out 2
    have hg0 : w9.cell? ⟨w.heap.size, 0, none⟩ = some (.int .i64 0) := blk_cell BZ9.out 0
    have hg1 : w9.cell? ⟨w.heap.size, 1, none⟩ = some (.int .i64 0) := blk_cell BZ9.out 1
    have hg2 : w9.cell? ⟨w.heap.size, 2, none⟩ = some (.string ⟨#[]⟩) := blk_cell BZ9.out 2
    have hs0 := fun v => box_set (i := 0) BZ9.out (by decide) v
    have hs1 := fun v0 v => box_set (i := 1) (blk_set BZ9.out 0 v0) (by simp) v
    have hs2 := fun v0 v1 v => box_set (i := 2) (blk_set (blk_set BZ9.out 0 v0) 1 v1) (by simp) v
    have KE := Lib.hid (fun (v0 v1 v2 : Value) => show Kp No w ((((w9.setCell ⟨w.heap.size, 0, none⟩ v0).setCell ⟨w.heap.size, 1, none⟩ v1).setCell ⟨w.heap.size, 2, none⟩ v2).drew) from (((K9.out.setCell (fun e => absurd e (Nat.lt_irrefl _)) _).setCell (fun e => absurd e (Nat.lt_irrefl _)) _).setCell (fun e => absurd e (Nat.lt_irrefl _)) _).drew)
    go_region_held3 (fun w' => w'.cell? ⟨b4, 0, none⟩ = some (.int .i64 X) ∧ w'.cell? ⟨b4, 1, none⟩ = some (.int .i64 Y) ∧ w'.cell? ⟨b4, 2, none⟩ = some (.string q))
      (first | exact ⟨by assumption, by assumption, by assumption⟩ | simp [go_sem, *])
      (fail)
    all_goals
      go_wp2_with fail
      (try simp only [Exit.inBlock, Exit.then])
      exact bodyPost_ret (v := .tuple #[.agg #[.int .i64 X, .int .i64 Y, .string q], .bool true]) (by simp [results, Tryd.results31, go_sem, hs0, hs1, hs2]) rfl ⟨F1, by rw [← HFF.out]; rfl, HSZ.out.1, HSZ.out.2, KE.out _ _ _⟩
  · have heI : ((e1 : Int) != 0) = true := by simp; omega
    have HSZ := Lib.hid (show fT3.s.size ≤ 60 ∧ rightB fT3 = true from ⟨by decide, fT3_right⟩)
    have HFF := Lib.hid (show (⟨5, 3, S3⟩ : Flr) = fT3 by rw [HS3.out]; rfl)
    have hpos : 0 < S3.size := by rw [HS3.out]; decide
    obtain ⟨X, Y, q⟩ := f1
    simp only at PA
    clear he HF1 HS3
    go_enter Tryd.func31, Tryd.ntmps31
    go_upto_region 1 with fail
    rw [← HWZ.out]
    go_wp2_with fail
    refine (PA.out _).mono ?_
    rintro e w1 ⟨rfl, k1⟩
    have K1 := Lib.hid k1
    clear k1
    obtain ⟨w2, hw2⟩ : ∃ y : World, y = w1.alloc (.cells #[.int .i64 X, .int .i64 Y, .string q] 23) := ⟨_, rfl⟩
    obtain ⟨b4, hb4⟩ : ∃ b, b = w1.heap.size := ⟨_, rfl⟩
    have b42 : w2.heap[b4]? = some (.cells #[.int .i64 X, .int .i64 Y, .string q] 23 (0, 0)) := by rw [hw2, hb4]; exact blk_new w1 _
    have k12 : Kp No w1 w2 := by rw [hw2]; exact (Kp.refl _ _).alloc _
    have B42 := Lib.hid b42; have K12 := Lib.hid k12; have HW2 := Lib.hid hw2; have HB4 := Lib.hid hb4
    clear hw2 b42 k12 hb4
    go_upto_region 2 with fail
    rw [← HW2.out, ← HB4.out]
    go_wp2_with fail
    refine (PB.out _).mono ?_
    rintro e w3 ⟨rfl, k3⟩
    have B43 := Lib.hid (k3.blk B42.out (no_no _))
    have K3 := Lib.hid (KZ.out.no (K1.out.no (K12.out.no k3)))
    have BZ3 := Lib.hid ((K1.out.no (K12.out.no k3)).blk BZ.out (no_no _))
    have HLT4 := Lib.hid (show w.heap.size < b4 by
      have := (lt_of_block BZ.out); have := K1.out.size; have := HB4.out; omega)
    clear k3
    have hf0 : w3.frozen? ⟨b4, 0, none⟩ = false := blk_free B43.out 0
    have hf1 : w3.frozen? ⟨b4, 1, none⟩ = false := blk_free B43.out 1
    have hf2 : w3.frozen? ⟨b4, 2, none⟩ = false := blk_free B43.out 2
    have hg0 : w3.cell? ⟨b4, 0, none⟩ = some (.int .i64 X) := blk_cell B43.out 0
    have hg1 : w3.cell? ⟨b4, 1, none⟩ = some (.int .i64 Y) := blk_cell B43.out 1
    have hg2 : w3.cell? ⟨b4, 2, none⟩ = some (.string q) := blk_cell B43.out 2
    go_upto_region 4 with fail
    obtain ⟨w9, hw9⟩ : ∃ y : World, y = ((w3.setCell ⟨b4, 0, none⟩ (.int .i64 5)).setCell ⟨b4, 1, none⟩ (.int .i64 3)).setCell ⟨b4, 2, none⟩ (.string S3) := ⟨_, rfl⟩
    rw [← hw9]
    have b49 : w9.heap[b4]? = some (.cells #[.int .i64 5, .int .i64 3, .string S3] 23 (0, 0)) := by
      rw [hw9]
      have := blk_set (blk_set (blk_set B43.out 0 (.int .i64 5)) 1 (.int .i64 3)) 2 (.string S3)
      simpa using this
    have k39 : Kp (fun k => k = b4) w3 w9 := by
      rw [hw9]
      exact (((Kp.refl (fun j => j = b4) w3).setCell (p := ⟨b4, 0, none⟩) (fun _ => rfl) _).setCell (p := ⟨b4, 1, none⟩) (fun _ => rfl) _).setCell (p := ⟨b4, 2, none⟩) (fun _ => rfl) _
    have bz9 := k39.blk BZ3.out (by have := HLT4.out; omega)
    have k9 : Kp No w w9 := K3.out.trans' k39 fun j hj e => by have := HLT4.out; omega
    clear hw9 k39 hf0 hf1 hf2 hg0 hg1 hg2
    have BZ9 := Lib.hid bz9; have B49 := Lib.hid b49; have K9 := Lib.hid k9
    have hne : ¬ b4 = w.heap.size := by have := HLT4.out; omega
    have hne2 : ¬ w.heap.size = b4 := by have := HLT4.out; omega
    clear bz9 b49 k9
    have hc0 : w9.cell? ⟨b4, 0, none⟩ = some (.int .i64 5) := blk_cell B49.out 0
    have hc1 : w9.cell? ⟨b4, 1, none⟩ = some (.int .i64 3) := blk_cell B49.out 1
    have hc2 : w9.cell? ⟨b4, 2, none⟩ = some (.string S3) := blk_cell B49.out 2
    have hf0 : w9.frozen? ⟨w.heap.size, 0, none⟩ = false := blk_free BZ9.out 0
    have hf1 : w9.frozen? ⟨w.heap.size, 1, none⟩ = false := blk_free BZ9.out 1
    have hf2 : w9.frozen? ⟨w.heap.size, 2, none⟩ = false := blk_free BZ9.out 2
    have hg0 : w9.cell? ⟨w.heap.size, 0, none⟩ = some (.int .i64 0) := blk_cell BZ9.out 0
    have hg1 : w9.cell? ⟨w.heap.size, 1, none⟩ = some (.int .i64 0) := blk_cell BZ9.out 1
    have hg2 : w9.cell? ⟨w.heap.size, 2, none⟩ = some (.string ⟨#[]⟩) := blk_cell BZ9.out 2
    have hs0 := fun v => box_set (i := 0) BZ9.out (by decide) v
    have hs1 := fun v0 v => box_set (i := 1) (blk_set BZ9.out 0 v0) (by simp) v
    have hs2 := fun v0 v1 v => box_set (i := 2) (blk_set (blk_set BZ9.out 0 v0) 1 v1) (by simp) v
    have KE := Lib.hid (fun (v0 v1 v2 : Value) => show Kp No w ((((w9.setCell ⟨w.heap.size, 0, none⟩ v0).setCell ⟨w.heap.size, 1, none⟩ v1).setCell ⟨w.heap.size, 2, none⟩ v2).drew) from (((K9.out.setCell (fun e => absurd e (Nat.lt_irrefl _)) _).setCell (fun e => absurd e (Nat.lt_irrefl _)) _).setCell (fun e => absurd e (Nat.lt_irrefl _)) _).drew)
    go_region_held3 (fun w' => w'.cell? ⟨b4, 0, none⟩ = some (.int .i64 5) ∧ w'.cell? ⟨b4, 1, none⟩ = some (.int .i64 3) ∧ w'.cell? ⟨b4, 2, none⟩ = some (.string S3))
      (first | exact ⟨by assumption, by assumption, by assumption⟩ | simp [go_sem, *])
      (fail)
    all_goals
      go_wp2_with fail
      (try simp only [Exit.inBlock, Exit.then])
      exact bodyPost_ret (v := .tuple #[.agg #[.int .i64 5, .int .i64 3, .string S3], .bool true]) (by simp [results, Tryd.results31, go_sem, hs0, hs1, hs2]) rfl ⟨fT3, by rw [← HFF.out]; rfl, HSZ.out.1, HSZ.out.2, KE.out _ _ _⟩
end Go.Proofs.YtgdokpfepfmbmaaDoor

namespace Go.Proofs.YtgdokpfepfmbmaaDoor
set_option linter.unusedVariables false
set_option linter.unusedSimpArgs false
open Go.RowKit

/-- What stays while a plan is taken: the plan, the robot's wish. -/
structure Keep (bm : Nat) (Ap : Option Addr) (np qp : Nat) (pl : List (Int × Int)) (b10 : Nat) (ob : Obj) (F : Nat → Prop) (w : World) : Prop where
  rd : Rd TK w (.slice Ap np qp) pl
  ro : ∀ g, (Value.slice Ap np qp).ownBlock = some g → Out F bm w g
  bx : w.heap[b10]? = some ob
  bo : Out F bm w b10
theorem Keep.step {bm : Nat} {Ap : Option Addr} {np qp : Nat} {pl : List (Int × Int)} {b10 : Nat} {ob : Obj} {F F' : Nat → Prop} {w w' : World} (k : Keep bm Ap np qp pl b10 ob F w) (h : TpS F F' bm w w') : Keep bm Ap np qp pl b10 ob F' w' :=
  ⟨Out.rd h k.ro k.rd, fun g hg => (k.ro g hg).step h, Out.blk h k.bo k.bx, k.bo.step h⟩
theorem win_cells {w : World} {b : Nat} {x y : Value} (h : w.heap[b]? = some (.cells #[x, y] 58 (0, 0))) : w.cell? ⟨b, 0, none⟩ = some x ∧ w.cell? ⟨b, 1, none⟩ = some y := ⟨blk_cell h 0, blk_cell h 1⟩
theorem want_cells {w : World} {b : Nat} {x y z : Value} (h : w.heap[b]? = some (.cells #[x, y, z] 70 (0, 0))) : w.cell? ⟨b, 0, none⟩ = some x ∧ w.cell? ⟨b, 1, none⟩ = some y ∧ w.cell? ⟨b, 2, none⟩ = some z := ⟨blk_cell h 0, blk_cell h 1, blk_cell h 2⟩
set_option maxHeartbeats 8000000 in
set_option maxRecDepth 100000 in
theorem topPlans_row (s : ByteArray) (hs : s.size ≤ 9223372036854775807) {w : World} {lv : Value} {l : List Rw} (hL : Rd RK w lv l) : Calls Tryd.prog 11 #[.string s, lv] w (LawR w) := by
  unfold LawR
  have hll := hL.lenI
  obtain ⟨AL, cL, rfl⟩ := hL.shape
  obtain ⟨n, hn⟩ : ∃ z, z = l.length := ⟨_, rfl⟩
  rw [← hn] at hL hll ⊢
  unfold maxLen at hll
  have HL := Lib.hid hL; have HN := Lib.hid hn
  have FL := Lib.hid (topFloors_any s hs)
  clear hL hn hs
  go_enter Tryd.func11, Tryd.ntmps11
  go_wp2_with fail
  refine (FL.out _).mono ?_
  rintro e w1 ⟨F, rfl, hsz, hrt, k1⟩
  obtain ⟨f, hf⟩ : ∃ f, f = F := ⟨_, rfl⟩
  have HF := Lib.hid hf
  rw [← hf]
  obtain ⟨X, Y, q⟩ := f
  unfold Flr.val
  simp only
  have HV := Lib.hid (show F.val = .agg #[.int .i64 X, .int .i64 Y, .string q] by rw [← HF.out]; rfl)
  have HSZ := Lib.hid hsz; have HRT := Lib.hid hrt
  obtain ⟨b5, hb5⟩ : ∃ b, b = w1.heap.size := ⟨_, rfl⟩
  obtain ⟨w2, hw2⟩ : ∃ y : World, y = w1.alloc (.cells #[.int .i64 X, .int .i64 Y, .string q] 23) := ⟨_, rfl⟩
  have B5 := Lib.hid (show w2.heap[b5]? = some (.cells #[.int .i64 X, .int .i64 Y, .string q] 23 (0, 0)) by rw [hw2, hb5]; exact blk_new w1 _)
  have K02 := Lib.hid (show Kp No w w2 by rw [hw2]; exact k1.alloc _)
  have HW2 := Lib.hid hw2; have HB5 := Lib.hid hb5
  have LB := Lib.hid (fun wx (hk : Kp No w2 wx) => show wx.cell? ⟨b5, 0, none⟩ = some (.int .i64 X) ∧ wx.cell? ⟨b5, 1, none⟩ = some (.int .i64 Y) ∧ wx.cell? ⟨b5, 2, none⟩ = some (.string q) from ⟨blk_cell (hk.blk B5.out (no_no _)) 0, blk_cell (hk.blk B5.out (no_no _)) 1, blk_cell (hk.blk B5.out (no_no _)) 2⟩)
  have PD := Lib.hid (fun w fr => ptDist_any F (by have := HSZ.out; omega) fr (Rd.nil IK w))
  have NE := Lib.hid (fun (c : Nat) (hc : c < F.s.size) => near_at F (by have := HSZ.out; omega) (c : Int) (by have := HSZ.out; omega) (nearP F c) rfl)
  rw [HV.out] at PD NE
  have hmm := @run_makeMap Tryd.prog
  clear k1 hw2 hb5 hf hsz hrt FL
  go_upto_region 2 with fail
  rw [← HW2.out, ← HB5.out]
  go_wp2_with fail
  refine (new_any _).mono ?_
  rintro e w3 ⟨bt, F0, rfl, r3, k3, gt, gF⟩
  obtain ⟨bm, hbm⟩ : ∃ b, b = w3.heap.size := ⟨_, rfl⟩
  obtain ⟨w4, hw4⟩ : ∃ y : World, y = w3.alloc (.map #[] 0) := ⟨_, rfl⟩
  have TM0 := Lib.hid (show TpM w2 bt bm (fun _ => []) [] F0 w4 by
    have l1 := r3.lt
    rw [hw4, hbm]
    exact ⟨r3.kpNo ((Kp.refl _ _).alloc _), MapP.made w3, fun e => by have := l1.2 _ e; omega, by have := l1.1; omega, gF, k3.size, k3.alloc _⟩)
  have HW4 := Lib.hid hw4; have HBM := Lib.hid hbm
  clear r3 k3 gt gF hw4 hbm
  go_upto_region 6 with fail
  rw [← HW4.out, ← HBM.out]
  clear hmm
  go_wp2_with fail
  go_loopg [41] (n + 1) (fun g_ iv wx => ∃ (i : Nat) (T : Int → List (Int × Int)) (es : List ((Int × Int) × Value)) (Fx : Nat → Prop), g_ = n + 1 - i ∧ iv = .int .i64 i ∧ i ≤ n ∧ TpM w2 bt bm T es Fx wx ∧ TopI T es ∧ (∀ c, (T c).length ≤ 40 * i))
  case atStart => exact ⟨0, _, _, _, rfl, rfl, by omega, TM0.out, ⟨WFT.nil, fun c m h => by simp at h⟩, fun c => by simp⟩
  case round =>
    obtain ⟨i, T, es, Fx, hg, rfl, hi, tm, ti, hlen⟩ := hrel
    have TM := Lib.hid tm; have TI := Lib.hid ti; have HLEN := Lib.hid hlen
    have KZ := Lib.hid (K02.out.no tm.kp)
    clear tm ti hlen
    by_cases hlt : i < n
    · have hltI : (i : Int) < (n : Int) := by omega
      have hwi : IntKind.i64.wrap ((i : Int) + 1) = (i : Int) + 1 := IntWalk.i64_in _ (by omega)
      obtain ⟨⟨fr, tg, s0⟩, hx⟩ : ∃ x, l[i]? = some x := ⟨_, List.getElem?_eq_getElem (by rw [← HN.out]; exact hlt)⟩
      rcases (HL.out.kpNo KZ.out) with ⟨_, he⟩ | ⟨g, o, cap', hv, _⟩
      · have := HN.out; rw [he, List.length_nil] at this; omega
      simp only [Value.slice.injEq] at hv
      obtain ⟨rfl, hzz, rfl⟩ := hv
      obtain ⟨hx0, hx1, hx2, hx3⟩ := (HL.out.kpNo KZ.out).rowAt hx
      simp only at hx0 hx1 hx2 hx3
      obtain ⟨b10, hb10⟩ : ∃ b, b = wr.heap.size := ⟨_, rfl⟩
      obtain ⟨w5, hw5⟩ : ∃ y : World, y = wr.alloc (.cells #[.int .i64 fr, .int .i64 tg, .int .i64 s0] 70) := ⟨_, rfl⟩
      have B10 := Lib.hid (show w5.heap[b10]? = some (.cells #[.int .i64 fr, .int .i64 tg, .int .i64 s0] 70 (0, 0)) by rw [hw5, hb10]; exact blk_new wr _)
      have K5 := Lib.hid (show Kp No wr w5 by rw [hw5]; exact (Kp.refl _ _).alloc _)
      have TM5 := Lib.hid (TM.out.no K5.out)
      have O10 := Lib.hid (show Out Fx bm w5 b10 from ⟨fun e => by have := TM.out.t.lt.2 _ e; omega, by have := TM.out.m.lt; omega, lt_of_block B10.out⟩)
      have HW5 := Lib.hid hw5; have HB10 := Lib.hid hb10
      clear hx hzz hlt hw5 hb10
      go_upto_region 9 with fail
      rw [← HW5.out, ← HB10.out]
      clear hx0 hx1 hx2 hx3
      obtain ⟨e0, e1, e2⟩ := want_cells B10.out
      have KZ5 := Lib.hid (KZ.out.no K5.out)
      by_cases a1 : i ≥ 6
      · have d1 : decide ((i : Int) ≥ 6) = true := by simp; omega
        clear a1
        go_wp2_with fail
        go_ret
        exact ⟨rfl, KZ5.out⟩
      have d1 : decide ((i : Int) ≥ 6) = false := by simp; omega
      by_cases a2 : s0 < 0
      · have d2 : decide (s0 < 0) = true := by simpa using a2
        go_wp2_with fail
        go_ret
        exact ⟨rfl, KZ5.out⟩
      have d2 : decide (s0 < 0) = false := by simpa using a2
      by_cases a3 : s0 > 100
      · have d3 : decide (s0 > 100) = true := by simpa using a3
        go_wp2_with fail
        go_ret
        exact ⟨rfl, KZ5.out⟩
      have d3 : decide (s0 > 100) = false := by simpa using a3
      have HI := Lib.hid (show i ≤ 5 ∧ 0 ≤ s0 ∧ s0 ≤ 100 by omega)
      obtain ⟨⟨pl, pe⟩, hP⟩ : ∃ P, P = planR F T fr s0 tg 40 := ⟨_, rfl⟩
      obtain ⟨np, hnp⟩ : ∃ z, z = pl.length := ⟨_, rfl⟩
      have PL := Lib.hid (spPlan_any F HSZ.out TI.out.wf (W := 241) (by omega) (fun c _ => by have h1 := freeL_len (T (c : Int)); have h2 := HLEN.out (c : Int); have := HI.out; omega) fr s0 tg 40 (.inl (by omega)) bt TM5.out.t)
      rw [← hP, HV.out] at PL
      unfold PlR at PL
      simp only at PL
      rw [← hnp] at PL
      have HCA := Lib.hid (planR_cases TI.out.wf hP)
      have HNP := Lib.hid hnp
      obtain ⟨c0, c1, c2⟩ := LB.out w5 TM5.out.kp
      clear hP hnp a1 a2 a3
      go_wp2_with fail
      refine PL.out.mono ?_
      rintro e w6 ⟨Ap, qp, rfl, n6⟩
      have KEEP := Lib.hid (show Keep bm Ap np qp pl b10 (.cells #[.int .i64 fr, .int .i64 tg, .int .i64 s0] 70 (0, 0)) Fx w6 from
        ⟨n6.own.rd, fun g hg => ⟨fun e => by have := TM5.out.t.lt.2 g e; have := n6.ge g hg; omega, by have := TM5.out.m.lt; have := n6.ge g hg; omega, n6.own.lt hg⟩, n6.kp.blk B10.out (no_no _), O10.out.step (TpS.no n6.kp)⟩)
      have TM6 := Lib.hid (TM5.out.no n6.kp)
      have KZ6 := Lib.hid (KZ5.out.no n6.kp)
      clear n6 c0 c1 c2 e0 e1 e2
      have hcont : pe ≠ 0 ∨ (pe = 0 ∧ np = 0) ∨ (pe = 0 ∧ np ≠ 0) := by omega
      rcases hcont with hpe | ⟨rfl, rfl⟩ | ⟨rfl, hnp0⟩
      · have hpb : (pe != 0) = true := by simpa using hpe
        clear hpe
        go_wp2_with fail
        go_roundg (n + 1 - (i + 1))
        case measure => omega
        case rel => exact ⟨i + 1, T, es, Fx, rfl, by go_num, by omega, TM6.out, TI.out, fun c => by have := HLEN.out c; omega⟩
      · go_wp2_with fail
        go_roundg (n + 1 - (i + 1))
        case measure => omega
        case rel => exact ⟨i + 1, T, es, Fx, rfl, by go_num, by omega, TM6.out, TI.out, fun c => by have := HLEN.out c; omega⟩
      · have hnpb : ((np : Int) == 0) = false := by simpa using hnp0
        obtain ⟨_, pw⟩ | ⟨_, ⟨e, _⟩ | ⟨e, _⟩⟩ := HCA.out
        rotate_left
        · exact absurd e (by decide)
        · exact absurd e (by decide)
        have PW := Lib.hid pw
        clear pw HCA
        obtain ⟨c0, c1, c2⟩ := LB.out w6 TM6.out.kp
        obtain ⟨e0, e1, e2⟩ := want_cells KEEP.out.bx
        go_wp2_with fail
        refine (PD.out _ _).mono ?_
        rintro e w7 ⟨vd, rfl, n7⟩
        have KEEP7 := Lib.hid (KEEP.out.step (TpS.no n7.kp))
        have TM7 := Lib.hid (TM6.out.no n7.kp)
        obtain ⟨kf, hkf, hkn, hrp, hk1, hs0, hs1⟩ := spOk_nat PW.out.ok
        obtain ⟨Nd, hNd⟩ : ∃ z, z = distP F fr [] := ⟨_, rfl⟩
        rw [← hNd] at n7
        have hNdE : Nd = distL (stepsP F fr.toNat []) fr.toNat F.s.size := by
          rw [hNd]; unfold distP
          rw [if_pos (by have := PW.out.ok; unfold spOk at this; simp only [Bool.and_eq_true] at this; exact this.1.1)]
        have hop := PW.out.op
        unfold opQ at hop
        simp only [Bool.and_eq_true, decide_eq_true_eq] at hop
        obtain ⟨ct, rfl⟩ : ∃ c : Nat, tg = c := ⟨tg.toNat, by omega⟩
        obtain ⟨Ad, qd, hvd⟩ := n7.own.rd.shape
        obtain ⟨nd, hnd⟩ : ∃ z, z = F.s.size := ⟨_, rfl⟩
        have hndl : Nd.length = nd := by rw [hNdE, distL_len, hnd]
        rw [hndl] at hvd
        subst hvd
        have hxd : Nd[ct]? = some (dst (stepsP F fr.toNat []) fr.toNat ct) := by rw [hNdE]; exact distL_get (by omega)
        rcases n7.own.rd with ⟨_, he⟩ | ⟨gd, od, cd, hvd, _⟩
        · have := congrArg List.length he; rw [hndl] at this; simp at this; omega
        simp only [Value.slice.injEq] at hvd
        obtain ⟨rfl, hz2, rfl⟩ := hvd
        have hcd := n7.own.rd.intAt hxd
        obtain ⟨dd, hdd⟩ : ∃ z, z = dst (stepsP F fr.toNat []) fr.toNat ct := ⟨_, rfl⟩
        rw [← hdd] at hcd
        obtain ⟨jl, hjl⟩ : ∃ j, np = j + 1 := ⟨np - 1, by omega⟩
        have hnp40 : np ≤ 40 := by have h1 : pl.length ≤ 40 := PW.out.len; have := HNP.out; omega
        have hwj : IntKind.i64.wrap ((np : Int) - 1) = (jl : Int) := by rw [IntWalk.i64_in _ (by omega)]; omega
        have hjI : (jl : Int) < (np : Int) := by omega
        obtain ⟨xl, hxl⟩ : ∃ z, pl[jl]? = some z := ⟨_, List.getElem?_eq_getElem (by rw [← HNP.out]; omega)⟩
        have hla := PW.out.last (x := xl) (by rw [← HNP.out, hjl]; exact hxl)
        rw [Int.toNat_natCast, ← hdd] at hla
        obtain ⟨_, l2, l3, l4⟩ := hla
        have hlo : s0 ≤ xl.2 := by
          have h1 := (wy_len pl (jl + 1) (by rw [← HNP.out]; omega) (wyB_take _ PW.out.way)).2
          rw [endW_at hxl] at h1
          simp only at h1; omega
        have hdb : 0 ≤ dd ∨ dd < 0 := by omega
        rcases KEEP7.out.rd with ⟨_, he⟩ | ⟨gp, op, cp, hvp, _⟩
        · have := HNP.out; rw [he, List.length_nil] at this; omega
        simp only [Value.slice.injEq] at hvp
        obtain ⟨rfl, hz3, rfl⟩ := hvp
        obtain ⟨hl1, hl2⟩ := KEEP7.out.rd.stpAt hxl
        obtain ⟨zt, hzt⟩ : ∃ z : Int, IntKind.i64.wrap (xl.2 - s0) = z := ⟨_, rfl⟩
        have hzz : zt = xl.2 - s0 := by rw [← hzt]; exact IntWalk.i64_in _ (by have := HI.out; omega)
        have q1 : decide ((ct : Int) < 0) = false := by simp
        have q2 : decide ((ct : Int) ≥ (nd : Int)) = false := by simp; omega
        have q3 : decide (zt < dd) = false := by simp; omega
        have q2n : decide (nd ≤ ct) = false := by simp; omega
        have q2m : ¬ nd ≤ ct := by omega
        have hct : (ct : Int) < (nd : Int) := by omega
        have hctn : ct < nd := by omega
        have hct0 : (0 : Int) ≤ (ct : Int) := by omega
        have KZ7 := Lib.hid (KZ6.out.no n7.kp)
        have HKF := Lib.hid (And.intro hkf (And.intro hkn hrp))
        obtain ⟨f0, f1, f2⟩ := want_cells KEEP7.out.bx
        clear n7 c0 c1 c2 e0 e1 e2 hxd hdd hjl hxl l2 l3 l4 hlo hdb hz2 hz3 hzz hop hNdE hndl hNd hnd hkf hkn hrp hk1 hs0 hs1 hnp0
        go_upto_region 13 with fail
        go_cut [81, 82, 83, 84, 85, 86, 87, 88, 89, 90, 91, 92, 93, 94, 95, 96, 97, 98, 99, 100, 101, 102, 103, 104, 105, 106, 107, 108] (fun _ _ _ _ _ _ _ _ _ _ _ _ _ _ _ _ _ _ _ _ _ _ _ _ _ _ _ v108 wx => v108 = .bool false ∧ Kp No w7 wx)
        case first =>
          go_quiet (fail)
          go_wp2_with fail
          go_meet
          exact ⟨rfl, (Kp.refl No _).drewN _⟩
        case rest =>
          obtain ⟨rfl, k8⟩ := hcut
          obtain ⟨w8, hw8⟩ : ∃ y : World, y = wc := ⟨_, rfl⟩
          rw [← hw8] at k8 ⊢
          have KEEP8 := Lib.hid (KEEP7.out.step (TpS.no k8))
          have TM8 := Lib.hid (TM7.out.no k8)
          have KZ8 := Lib.hid (KZ7.out.no k8)
          clear hw8 k8 hcd hl1 hl2 f0 f1 f2 hzt
          obtain ⟨f0, f1, f2⟩ := want_cells KEEP8.out.bx
          obtain ⟨kk, rfl⟩ : ∃ z : Nat, fr = z := ⟨kf, HKF.out.1⟩
          have HKK := Lib.hid (show kk < F.s.size ∧ RightP F from ⟨by have := HKF.out; omega, HKF.out.2.2⟩)
          have HWY := Lib.hid (show wyB T (stepsP F kk []) kk s0 pl = true by have := PW.out.way; rwa [Int.toNat_natCast] at this)
          have HTB := Lib.hid (show ∀ (j : Nat) y, pl[j]? = some y → y.2 ≤ s0 + 40 from fun j y hy => by
            have hj := (List.getElem?_eq_some_iff.1 hy).1
            have h1 := wy_rise pl HWY.out (np - (j + 1)) (j + 1) (by have := HNP.out; omega)
            rw [show j + 1 + (np - (j + 1)) = pl.length by have := HNP.out; omega, List.take_length, endW_at hy] at h1
            simp only at h1
            rcases PW.out.kk with ⟨e, _⟩ | ⟨_, _, k2, hk2, _, _, _, _, he2⟩
            · rw [e] at hj; simp at hj
            · rw [Int.toNat_natCast] at he2
              rw [he2] at h1
              simp at hk2; omega)
          clear HKF kf
          go_wp2_with fail
          go_quiet (fail)
          obtain ⟨w9, hw9⟩ : ∃ y : World, y = w8.drewN nq := ⟨_, rfl⟩
          have k89 : Kp No w8 w9 := by rw [hw9]; exact (Kp.refl No _).drewN _
          rw [← hw9]
          have KEEP9 := Lib.hid (KEEP8.out.step (TpS.no k89))
          have TM9 := Lib.hid (TM8.out.no k89)
          clear hw9 k89 f0 f1 f2
          go_wp2_with fail
          have KEEPN : ∀ {w : World} {F1 : Nat → Prop}, Keep bm (some ⟨gp, op, none⟩) np qp pl b10 (.cells #[.int .i64 (kk : Int), .int .i64 (ct : Int), .int .i64 s0] 70 (0, 0)) F1 w → Keep bm (some ⟨gp, op, none⟩) np qp pl b10 (.cells #[.int .i64 (kk : Int), .int .i64 (ct : Int), .int .i64 s0] 70 (0, 0)) F1 w := fun h => h
          obtain ⟨gO1, hgO1⟩ : ∃ z, z = gk := ⟨_, rfl⟩
          go_loopg [14, 15, 115] (np + 1) (fun g_ av nv iv wx => ∃ (k a : Nat) (now : Int) (T' : Int → List (Int × Int)) (es' : List ((Int × Int) × Value)) (F' : Nat → Prop), g_ = np + 1 - k ∧ iv = .int .i64 (k : Int) ∧ k ≤ np ∧ av = .int .i64 (a : Int) ∧ nv = .int .i64 now ∧ endW kk s0 (pl.take k) = (a, now) ∧ a < F.s.size ∧ s0 ≤ now ∧ now ≤ s0 + 40 ∧ TpM w2 bt bm T' es' F' wx ∧ TopI T' es' ∧ (∀ c j, now < j → isF (T' c) j = isF (T c) j) ∧ (∀ c, ((T' c).length : Int) ≤ 40 * i + (now - s0)) ∧ Keep bm (some ⟨gp, op, none⟩) np qp pl b10 (.cells #[.int .i64 (kk : Int), .int .i64 (ct : Int), .int .i64 s0] 70 (0, 0)) F' wx)
          case atStart => exact ⟨0, kk, s0, T, es, Fx, rfl, rfl, by omega, rfl, rfl, rfl, HKK.out.1, by omega, by omega, TM9.out, TI.out, fun _ _ _ => rfl, fun c => by have := HLEN.out c; omega, KEEP9.out⟩
          case round =>
            obtain ⟨k, a, now, T', es', F', hgk, rfl, hk, rfl, rfl, hen, ha, hn0, hn1, tm, ti, hagr, hlen, kp⟩ := hrel
            have TMk := Lib.hid tm; have TIk := Lib.hid ti; have AGR := Lib.hid hagr; have HLN := Lib.hid hlen; have KPk := Lib.hid kp
            have EN := Lib.hid hen; have HAk := Lib.hid ha
            clear tm ti hagr hlen kp hen ha
            by_cases hkn : k < np
            · have hknI : (k : Int) < (np : Int) := by omega
              have hwk : IntKind.i64.wrap ((k : Int) + 1) = (k : Int) + 1 := IntWalk.i64_in _ (by omega)
              obtain ⟨y, hy⟩ : ∃ z, pl[k]? = some z := ⟨_, List.getElem?_eq_getElem (by rw [← HNP.out]; exact hkn)⟩
              obtain ⟨hy1, hy2⟩ := KPk.out.rd.stpAt hy
              have HST := Lib.hid (show stB T (stepsP F kk []) a now y = true by
                have h1 := wyB_take (k + 1) HWY.out
                rw [wyB_at hy, EN.out, Bool.and_eq_true] at h1
                exact h1.2)
              have HYT := Lib.hid (HTB.out k y hy)
              have HYE := Lib.hid (endW_at (a := kk) (now := s0) hy)
              obtain ⟨b17, hb17⟩ : ∃ b, b = wr.heap.size := ⟨_, rfl⟩
              obtain ⟨w10, hw10⟩ : ∃ z : World, z = wr.alloc (.cells #[.int .i64 y.1, .int .i64 y.2] 58) := ⟨_, rfl⟩
              have B17 := Lib.hid (show w10.heap[b17]? = some (.cells #[.int .i64 y.1, .int .i64 y.2] 58 (0, 0)) by rw [hw10, hb17]; exact blk_new wr _)
              have k10 : Kp No wr w10 := by rw [hw10]; exact (Kp.refl _ _).alloc _
              have TM10 := Lib.hid (TMk.out.no k10)
              have KP10 := Lib.hid (KPk.out.step (TpS.no k10))
              have O17 := Lib.hid (show Out F' bm w10 b17 from ⟨fun e => by have := TMk.out.t.lt.2 _ e; omega, by have := TMk.out.m.lt; omega, lt_of_block B17.out⟩)
              have HW10 := Lib.hid hw10; have HB17 := Lib.hid hb17
              have NEa := Lib.hid (NE.out a HAk.out)
              unfold RetI at NEa
              obtain ⟨NL, hNL⟩ : ∃ z, z = nearP F a := ⟨_, rfl⟩
              rw [← hNL] at NEa
              obtain ⟨nl, hnl⟩ : ∃ z, z = NL.length := ⟨_, rfl⟩
              rw [← hnl] at NEa
              have hnl4 : nl ≤ 4 := by rw [hnl, hNL]; exact near_len4 _ _
              have HNL := Lib.hid hNL; have HNLL := Lib.hid hnl
              clear hy hw10 hb17 k10 hNL hnl hkn
              go_upto_region 19 with fail
              rw [← HW10.out, ← HB17.out]
              clear hy1 hy2
              obtain ⟨c0, c1, c2⟩ := LB.out w10 TM10.out.kp
              go_wp2_with fail
              refine (NEa.out _).mono ?_
              rintro e w11 ⟨An, qn, rfl, n11⟩
              have RN := Lib.hid n11.own.rd
              have TM11 := Lib.hid (TM10.out.no n11.kp)
              have S11 := Lib.hid (show TpS F' F' bm w10 w11 from TpS.no n11.kp)
              have KP11 := Lib.hid (KP10.out.step S11.out)
              have B17b := Lib.hid (show w11.heap[b17]? = some (.cells #[.int .i64 y.1, .int .i64 y.2] 58 (0, 0)) from n11.kp.blk B17.out (no_no _))
              have O17b := Lib.hid (O17.out.step S11.out)
              clear n11 c0 c1 c2
              go_wp2_with fail
              obtain ⟨gO2, hgO2⟩ : ∃ z, z = gk := ⟨_, rfl⟩
              go_loopg [18, 123] (nl + 1) (fun g_ bv jv wx => ∃ j : Nat, g_ = nl + 1 - j ∧ jv = .int .i64 (j : Int) ∧ j ≤ nl ∧ bv = .bool (decide (y.1 ∈ (ints NL).take j)) ∧ Kp No w11 wx)
              case atStart => exact ⟨0, rfl, rfl, by omega, by simp, Kp.refl _ _⟩
              case round =>
                obtain ⟨j, hgj, rfl, hj, rfl, kj⟩ := hrel
                have KJ := Lib.hid kj
                clear kj
                obtain ⟨t3, ht3⟩ : ∃ t3, t3 = decide (y.1 ∈ (ints NL).take j) := ⟨_, rfl⟩
                rw [← ht3]
                have HT3 := Lib.hid ht3
                clear ht3
                by_cases hjs : j < nl
                · have hjI : (j : Int) < (nl : Int) := by omega
                  have hwj2 : IntKind.i64.wrap ((j : Int) + 1) = (j : Int) + 1 := IntWalk.i64_in _ (by omega)
                  obtain ⟨z, hz⟩ : ∃ z, NL[j]? = some z := ⟨_, List.getElem?_eq_getElem (by rw [← HNLL.out]; exact hjs)⟩
                  rcases (RN.out.kpNo KJ.out) with ⟨_, he⟩ | ⟨gs, os, cs', hv, _⟩
                  · have := congrArg List.length he; rw [ints_len, ← HNLL.out] at this; simp at this; omega
                  simp only [Value.slice.injEq] at hv
                  obtain ⟨rfl, hzz, rfl⟩ := hv
                  have hcz : wr.cell? ⟨gs, os + j, none⟩ = some (.int .i64 (z : Int)) := (RN.out.kpNo KJ.out).intAt (ints_get hz)
                  obtain ⟨s0_, s1_⟩ := win_cells (KJ.out.blk B17b.out (no_no _))
                  obtain ⟨t4, ht4⟩ : ∃ b, ((z : Int) == y.1) = b := ⟨_, rfl⟩
                  have HNE := Lib.hid (show decide (y.1 ∈ (ints NL).take (j + 1)) = (t3 || t4) by
                    rw [List.take_add_one, ints_get hz, HT3.out, ← ht4]
                    rw [Bool.eq_iff_iff]
                    simp only [Option.toList_some, List.mem_append, List.mem_singleton, decide_eq_true_eq, Bool.or_eq_true, beq_iff_eq]
                    constructor
                    · rintro (e | e)
                      · exact .inl e
                      · exact .inr e.symm
                    · rintro (e | e)
                      · exact .inl e
                      · exact .inr e.symm)
                  clear hzz hz hjs
                  have hcs : t3 = true ∨ t3 = false := by cases t3 <;> simp
                  rcases hcs with rfl | rfl
                  all_goals
                    go_wp2_with fail
                    go_roundg (nl + 1 - (j + 1))
                    case measure => omega
                    case rel => exact ⟨j + 1, rfl, by go_num, by omega, by rw [HNE.out]; first | rfl | simp, KJ.out⟩
                · have hjE : j = nl := by omega
                  have hjI : ¬ (j : Int) < (nl : Int) := by omega
                  obtain ⟨h1, h2, h3, h4, h5⟩ := stB_iff.1 HST.out
                  have ht3 : t3 = true := by
                    rw [HT3.out, hjE, HNLL.out, ← ints_len, List.take_length, decide_eq_true_eq, HNL.out]
                    obtain ⟨c, hc, hcx⟩ : ∃ c : Nat, c ∈ stepsP F kk [] a ∧ (c : Int) = y.1 := by
                      unfold ints at h3; rw [List.mem_map] at h3; exact h3
                    rw [← hcx]
                    exact ints_mem.2 (steps_near hc).1
                  subst ht3
                  obtain ⟨c, hcx, hcn⟩ : ∃ c : Nat, (c : Int) = y.1 ∧ c < F.s.size := by
                    unfold ints at h3; rw [List.mem_map] at h3
                    obtain ⟨c, hc, e⟩ := h3
                    exact ⟨c, e, steps_sz HKK.out.2 HAk.out hc⟩
                  have TM12 := Lib.hid (TM11.out.no KJ.out)
                  have S12 := Lib.hid (show TpS F' F' bm w11 wr from TpS.no KJ.out)
                  have KP12 := Lib.hid (KP11.out.step S12.out)
                  have B17c := Lib.hid (Out.blk S12.out O17b.out B17b.out)
                  have O17c := Lib.hid (O17b.out.step S12.out)
                  have HY := Lib.hid (And.intro h1 (And.intro h4 h5))
                  have HCX := Lib.hid hcx; have HCNF := Lib.hid hcn
                  obtain ⟨s0_, s1_⟩ := win_cells B17c.out
                  obtain ⟨f0, f1, f2⟩ := want_cells KP12.out.bx
                  have r1 : decide (y.2 ≤ now) = false := by simp; omega
                  have hw40 : IntKind.i64.wrap (s0 + 40) = s0 + 40 := IntWalk.i64_in _ (by have := HI.out; omega)
                  have r2 : decide (y.2 > s0 + 40) = false := by have := HYT.out; simp; omega
                  have hwn : IntKind.i64.wrap (now + 1) = now + 1 := IntWalk.i64_in _ (by have := HI.out; omega)
                  clear hjE h1 h2 h3 h4 h5 hcx hcn hjs
                  go_wp2_with fail
                  obtain ⟨gO3, hgO3⟩ : ∃ z, z = gk := ⟨_, rfl⟩
                  go_loopg [21] ((y.2 - (now + 1)).toNat + 1) (fun g_ mv wx => ∃ (m : Int) (T4 : Int → List (Int × Int)) (es4 : List ((Int × Int) × Value)) (F4 : Nat → Prop), g_ = (y.2 - m).toNat + 1 ∧ mv = .int .i64 m ∧ now < m ∧ m ≤ y.2 ∧ TpM w2 bt bm T4 es4 F4 wx ∧ TopI T4 es4 ∧ (∀ c j, m ≤ j → isF (T4 c) j = isF (T c) j) ∧ (∀ c, ((T4 c).length : Int) ≤ 40 * i + (m - 1 - s0)) ∧ Keep bm (some ⟨gp, op, none⟩) np qp pl b10 (.cells #[.int .i64 (kk : Int), .int .i64 (ct : Int), .int .i64 s0] 70 (0, 0)) F4 wx ∧ wx.heap[b17]? = some (.cells #[.int .i64 y.1, .int .i64 y.2] 58 (0, 0)) ∧ Out F4 bm wx b17)
                  case atStart => exact ⟨now + 1, T', es', F', rfl, rfl, by omega, by have := HY.out.1; omega, TM12.out, TIk.out, fun c j hj => AGR.out c j (by omega), fun c => by have := HLN.out c; omega, KP12.out, B17c.out, O17c.out⟩
                  case round =>
                    obtain ⟨m, T4, es4, F4, hgm, rfl, hm1, hm2, tm4, ti4, hagr4, hlen4, kp4, b4, o4⟩ := hrel
                    have TM4 := Lib.hid tm4; have TI4 := Lib.hid ti4; have AG4 := Lib.hid hagr4; have HL4 := Lib.hid hlen4; have KP4 := Lib.hid kp4; have B4 := Lib.hid b4; have O4 := Lib.hid o4
                    clear tm4 ti4 hagr4 hlen4 kp4 b4 o4 s0_ s1_ f0 f1 f2
                    obtain ⟨s0_, s1_⟩ := win_cells B4.out
                    have HM := Lib.hid (show 0 ≤ m ∧ m ≤ 200 ∧ y.2 ≤ 200 by have := HI.out; have := HYT.out; omega)
                    by_cases hlm : m < y.2
                    · have hwm : IntKind.i64.wrap (m + 1) = m + 1 := IntWalk.i64_in _ (by have := HM.out; omega)
                      have HF4 := Lib.hid (show isF (T4 (a : Int)) m = true by rw [AG4.out _ m (Int.le_refl _)]; exact HY.out.2.1 m hm1 hlm)
                      have HLL := Lib.hid (show ∀ c, (T4 c).length ≤ 4000 from fun c => by have := HL4.out c; have := HI.out; have := HM.out; omega)
                      have hn := TI4.out.new HF4.out
                      have hlk : (Instr.lookup 68 (.map (some bm)) (.agg #[.int .i64 (a : Int), .int .i64 m]) true).run Tryd.prog wr = .ok (.tuple #[.int .i64 0, .bool false]) wr := TM4.out.m.lookNo ((a : Int), m) hn
                      obtain ⟨wu, hup, tmu, su⟩ := TM4.out.upd ((a : Int), m) hn (.int .i64 (i : Int))
                      simp only at hup
                      have TMU := Lib.hid tmu; have SU := Lib.hid su
                      have TA := Lib.hid (tmu.take TI4.out.wf (a : Int) m (m + 1))
                      clear hn tmu su
                      go_wp2_with fail
                      refine TA.out.mono ?_
                      rintro e w14 ⟨rfl, F5, tm5, s5⟩
                      have TM5 := Lib.hid tm5
                      have S5 := Lib.hid (SU.out.trans s5)
                      have LEN5 := Lib.hid (show ∀ c, ((takeT T4 (a : Int) m (m + 1) c).length : Int) ≤ 40 * i + (m + 1 - 1 - s0) from fun c => by have h1 := takeT_len T4 (a : Int) m (m + 1) c; have h2 := HL4.out c; omega)
                      clear tm5 s5 hlk hup s0_ s1_
                      go_wp2_with fail
                      go_roundg ((y.2 - (m + 1)).toNat + 1)
                      case measure => omega
                      case rel =>
                        exact ⟨m + 1, _, _, F5, rfl, rfl, by omega, by omega, TM5.out, TI4.out.step (HLL.out _) HF4.out _, fun c j hj => by
                          rw [isF_take1 TI4.out.wf (HLL.out _) HF4.out, AG4.out c j (by omega)]
                          have : decide (j = m) = false := by simp; omega
                          rw [this]; simp, LEN5.out, KP4.out.step S5.out, Out.blk S5.out O4.out B4.out, O4.out.step S5.out⟩
                    · obtain rfl : m = y.2 := by omega
                      have hwy : IntKind.i64.wrap (y.2 + 1) = y.2 + 1 := IntWalk.i64_in _ (by have := HM.out; omega)
                      have HF4 := Lib.hid (show isF (T4 y.1) y.2 = true by rw [AG4.out _ y.2 (Int.le_refl _)]; exact HY.out.2.2)
                      have HLL := Lib.hid (show ∀ c, (T4 c).length ≤ 4000 from fun c => by have := HL4.out c; have := HI.out; have := HM.out; omega)
                      have hn := TI4.out.new HF4.out
                      have hlk : (Instr.lookup 68 (.map (some bm)) (.agg #[.int .i64 y.1, .int .i64 y.2]) true).run Tryd.prog wr = .ok (.tuple #[.int .i64 0, .bool false]) wr := TM4.out.m.lookNo (y.1, y.2) hn
                      obtain ⟨wu, hup, tmu, su⟩ := TM4.out.upd (y.1, y.2) hn (.int .i64 (i : Int))
                      simp only at hup
                      have TMU := Lib.hid tmu; have SU := Lib.hid su
                      have TA := Lib.hid (tmu.take TI4.out.wf y.1 y.2 (y.2 + 1))
                      rw [take_one (HLL.out _) HF4.out] at TA
                      have BU := Lib.hid (Out.blk su O4.out B4.out)
                      obtain ⟨u0, u1⟩ := win_cells BU.out
                      have hd0 : ¬ y.2 < y.2 := by omega
                      clear hn tmu su hlm
                      go_wp2_with fail
                      refine TA.out.mono ?_
                      rintro e w14 ⟨rfl, F5, tm5, s5⟩
                      have TM5 := Lib.hid tm5
                      have S5 := Lib.hid (SU.out.trans s5)
                      have B5c := Lib.hid (Out.blk S5.out O4.out B4.out)
                      have LEN5 := Lib.hid (show ∀ c, ((takeT T4 y.1 y.2 (y.2 + 1) c).length : Int) ≤ 40 * i + (y.2 - s0) from fun c => by have h1 := takeT_len T4 y.1 y.2 (y.2 + 1) c; have h2 := HL4.out c; omega)
                      clear tm5 s5 hlk hup s0_ s1_ u0 u1
                      obtain ⟨s0_, s1_⟩ := win_cells B5c.out
                      have hwk : IntKind.i64.wrap ((k : Int) + 1) = (k : Int) + 1 := IntWalk.i64_in _ (by omega)
                      go_wp2_with fail
                      go_quiet (fail)
                      go_wp2_with fail
                      go_roundg (np + 1 - (k + 1))
                      case measure => omega
                      case rel =>
                        refine ⟨k + 1, c, y.2, _, _, F5, rfl, by go_num, by omega, by rw [HCX.out], rfl, by rw [HYE.out, ← HCX.out]; simp, HCNF.out, by omega, HYT.out, TM5.out.no ((Kp.refl No _).drewN _), TI4.out.step (HLL.out _) HF4.out _, fun c j hj => ?_, LEN5.out, (KP4.out.step S5.out).step (TpS.no ((Kp.refl No _).drewN _))⟩
                        rw [isF_take1 TI4.out.wf (HLL.out _) HF4.out, AG4.out c j (by omega)]
                        have : decide (j = y.2) = false := by simp; omega
                        rw [this]; simp
            · obtain rfl : np = k := by omega
              have hd0 : ¬ (np : Int) < (np : Int) := by omega
              clear hkn
              go_wp2_with fail
              go_roundg (n + 1 - (i + 1))
              case measure => omega
              case rel => exact ⟨i + 1, T', es', F', rfl, by go_num, by omega, TMk.out, TIk.out, fun c => by have := HLN.out c; omega⟩
    · obtain rfl : n = i := by omega
      have hd0 : ¬ (n : Int) < (n : Int) := by omega
      clear hlt
      go_wp2_with fail
      go_ret
      exact ⟨rfl, KZ.out⟩
end Go.Proofs.YtgdokpfepfmbmaaDoor

namespace Go.Proofs.YtgdokpfepfmbmaaDoor
set_option linter.unusedVariables false
set_option linter.unusedSimpArgs false
open Go.ChangeShapes Go.WideShapes Go.ChangeAt Go.RowKit Go.Joins

section
variable {H : Type} {enc : TypeId × Value → H} {w : World} {base : Nat} {spare : Nat → Bool} {held : Bool}
set_option maxRecDepth 100000 in
theorem want_dec {n : Nat} {cs : List Value} {y : DataW H × List MemPlace} (h : DataW.trod enc Tryd.prog w base spare held n 70 cs = some y) : ∃ x : Rw, cs = RK.enc x ∧ True := by
  obtain ⟨ys, n', rfl, hy, hlen, hyl, hf⟩ := DataW.trod_struct Tryd.underlying70 h
  have hc : Tryd.prog.cellsOf 70 = 3 := by kernel_rfl
  have hi : Tryd.prog.cellsOf 3 = 1 := by kernel_rfl
  rw [hc] at hlen
  match cs, hlen with
  | [c0, c1, c2], _ =>
    match ys, hyl with
    | [y0, y1, y2], _ =>
      have h0 := hf 0 _ rfl
      have h1 := hf 1 _ rfl
      have h2 := hf 2 _ rfl
      simp [hi] at h0 h1 h2
      obtain ⟨a, e0, _, _⟩ := DataW.trod_int Tryd.underlying3 h0
      obtain ⟨b, e1, _, _⟩ := DataW.trod_int Tryd.underlying3 h1
      obtain ⟨c, e2, _, _⟩ := DataW.trod_int Tryd.underlying3 h2
      simp at e0 e1 e2
      exact ⟨(a, (b, c)), by rw [e0, e1, e2]; rfl, trivial⟩
set_option maxRecDepth 100000 in
theorem open_wants {v : Value} {d : DataW H} {p : List MemPlace} {r : Reach} {b0 : Nat} (hv : Value.okWide Tryd.prog w r b0 65 v) (h : DataW.Trod enc Tryd.prog w base spare held 65 v d p) : ∃ l : List Rw, Rd RK w v l := by
  obtain ⟨a0, len, cap, rfl⟩ := okWide_slice Tryd.underlying65 hv
  obtain ⟨fuel, hf⟩ := h
  obtain ⟨l, h1, h2, A, cap, e, h3, h4⟩ := open_rows (K := RK) (fun _ : Rw => True) Tryd.underlying65 (by kernel_rfl) (fun n cs' y hy => want_dec hy) hf
  rw [e] at h1 ⊢
  exact ⟨l, h1.rd' h3 h4⟩
end
end Go.Proofs.YtgdokpfepfmbmaaDoor
