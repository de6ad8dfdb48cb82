/- FloorRights, FloorBack, the walks. -/
import Derived.Test.YtolkkinophklcaaDoorFlSw
import Derived.Test.YtolkkinophklcaaDoorFlTx
import Derived.Test.YtolkkinophklcaaDoorFlQq
import Derived.Test.YtolkkinophklcaaDoorFlLp
import Derived.Test.YtolkkinophklcaaDoorArgF
import Derived.Deep.RegionHeld3
namespace Go.Proofs.YtolkkinophklcaaDoor
set_option linter.unusedVariables false
set_option linter.unusedSimpArgs false
open Go.RowKit

set_option maxHeartbeats 2000000 in
set_option maxRecDepth 100000 in
theorem rights_row (f : Flr) (hs : f.s.size ≤ 9223372036854775807) (w : World) : Calls Tryd.prog 8 #[f.val] w (LawR w) := by
  unfold LawR
  have HSH := Lib.hid shown_any
  have HBX := Lib.hid (BxW.new f w)
  obtain ⟨X, Y, s⟩ := f
  simp only at hs
  obtain ⟨n, hn⟩ : ∃ n, n = s.size := ⟨_, rfl⟩
  have hnI : ((s.size : Nat) : Int) = (n : Int) := by omega
  by_cases h : 2000 < n
  · have hI : (2000 : Int) < (n : Int) := by omega
    unfold Flr.val
    clear hn h
    go_enter Tryd.func8, Tryd.ntmps8
    go_wp2_with fail
    refine (HSH.out _).mono ?_
    rintro e w1 ⟨rfl, k1⟩
    have B1 := Lib.hid (HBX.out.no k1)
    have hb2 : w1.cell? ⟨w.heap.size, 2, none⟩ = some (.string s) := B1.out.c2
    clear k1
    go_wp2_with fail
    go_ret
    exact ⟨rfl, B1.out.kp⟩
  · have hI : ¬ (2000 : Int) < (n : Int) := by omega
    obtain ⟨f, hf⟩ : ∃ f : Flr, f = ⟨X, Y, s⟩ := ⟨_, rfl⟩
    have hfs : f.s.size ≤ 9223372036854775807 := by rw [hf]; exact hs
    obtain ⟨rb, hrb⟩ : ∃ rb, rightB f = rb := ⟨_, rfl⟩
    have H1 := Lib.hid (right_at f hfs rb hrb)
    have H2 := Lib.hid (qright_at f hfs rb hrb)
    have H3 := Lib.hid (text_any f hfs)
    have H4 := Lib.hid (qtext_any f hfs)
    obtain ⟨T, hT⟩ : ∃ T, T = textP f := ⟨_, rfl⟩
    rw [← hT] at H3 H4
    rw [hf] at H1 H2 H3 H4
    unfold Flr.val at H1 H2 H3 H4 ⊢
    clear hf hrb hT hfs hn h hs
    go_enter Tryd.func8, Tryd.ntmps8
    go_wp2_with fail
    refine (HSH.out _).mono ?_
    rintro e we ⟨rfl, k1⟩
    have B5 := Lib.hid (HBX.out.no k1)
    have hb2 : we.cell? ⟨w.heap.size, 2, none⟩ = some (.string s) := B5.out.c2
    clear k1
    go_wp2_with fail
    have SALL : Hid (∀ w', Kp No we w' → (w'.cell? ⟨w.heap.size, 0, none⟩ = some (.int .i64 X) ∧ w'.cell? ⟨w.heap.size, 1, none⟩ = some (.int .i64 Y) ∧ w'.cell? ⟨w.heap.size, 2, none⟩ = some (.string s))) := Lib.hid fun w' hk =>
      ⟨(B5.out.no hk).c0, (B5.out.no hk).c1, (B5.out.no hk).c2⟩
    obtain ⟨s1, s2, s3⟩ := SALL.out we.drew (Kp.refl No we).drew
    clear hb2
    go_region_held3 (fun w' => w'.cell? ⟨w.heap.size, 0, none⟩ = some (.int .i64 X) ∧ w'.cell? ⟨w.heap.size, 1, none⟩ = some (.int .i64 Y) ∧ w'.cell? ⟨w.heap.size, 2, none⟩ = some (.string s))
      (first | exact ⟨by assumption, by assumption, by assumption⟩ | exact ⟨s1, s2, s3⟩)
      (first
        | (go_at_call 27; refine (H4.out _).mono ?_; rintro e w12 ⟨rfl, k12⟩; have K12 := Lib.hid (K11.out.trans k12); obtain ⟨t1, t2, t3⟩ := SALL.out w12 K12.out; clear k12)
        | (go_at_call 26; refine (H3.out _).mono ?_; rintro e w11 ⟨rfl, k11⟩; have K11 := Lib.hid (K10.out.trans k11); obtain ⟨t1, t2, t3⟩ := SALL.out w11 K11.out; clear k11)
        | (go_at_call 25; refine (H2.out _).mono ?_; rintro e w10 ⟨rfl, k10⟩; have K10 := Lib.hid (K9.out.trans k10); obtain ⟨t1, t2, t3⟩ := SALL.out w10 K10.out; clear k10)
        | (go_at_call 24; refine (H1.out we.drew).mono ?_; rintro e w9 ⟨rfl, k9⟩; have K9 := Lib.hid ((Kp.refl No we).drew.trans k9); obtain ⟨t1, t2, t3⟩ := SALL.out w9 K9.out; clear k9))
    go_wp2_with fail
    go_ret
    exact ⟨rfl, B5.out.kp.no K12.out⟩

theorem neqFloor (a b : Int) (s : ByteArray) (w : World) : (binOp .neq 24 (.agg #[.int .i64 a, .int .i64 b, .string s]) (.agg #[.int .i64 a, .int .i64 b, .string s])).run Tryd.prog w = .ok (.bool false) w := by
  simp [binOp, Op.equal, Op.maxDepth, go_sem]

/-- The second half: a text that is parsed. -/
structure Half (s : ByteArray) (g : Flr) (er : Nat) : Prop where
  ok : er = 0 → rightB g = true ∧ (textP g = s ∨ textP g = s ++ ⟨#[10]⟩)
  no : er ≠ 0 → g = Flr.zero
theorem half (s : ByteArray) {g : Flr} {y er : Nat} (h : parseP s = (g, y, er)) : Half s g er := by
  refine ⟨fun e => ?_, fun e => ?_⟩
  · subst e; exact text_parse h
  · have := parseP_no (s := s) (by rw [h]; exact e)
    rwa [h] at this

set_option maxHeartbeats 4000000 in
set_option maxRecDepth 100000 in
theorem back_row (f : Flr) (hs : f.s.size ≤ 9223372036854775807) (s : ByteArray) (hs2 : s.size ≤ 9223372036854775807) (w : World) : Calls Tryd.prog 9 #[f.val, .string s] w (LawR w) := by
  unfold LawR
  have HSH := Lib.hid shown_any
  have HBX := Lib.hid (BxW.new f w)
  obtain ⟨X, Y, c⟩ := f
  simp only at hs
  obtain ⟨n, hn⟩ : ∃ n, n = c.size := ⟨_, rfl⟩
  have hnI : ((c.size : Nat) : Int) = (n : Int) := by omega
  obtain ⟨m, hm⟩ : ∃ m, m = s.size := ⟨_, rfl⟩
  have hmI : ((s.size : Nat) : Int) = (m : Int) := by omega
  by_cases h : 2000 < n ∨ 2000 < m
  · obtain ⟨tn, htn⟩ : ∃ tn, decide ((2000 : Int) < (n : Int)) = tn := ⟨_, rfl⟩
    have hmt : tn = false → (2000 : Int) < (m : Int) := fun e => by rw [e] at htn; simp at htn; omega
    unfold Flr.val
    clear hn h hm
    cases tn with
    | true =>
      have hI : (2000 : Int) < (n : Int) := by simpa using htn
      clear htn hmt
      go_enter Tryd.func9, Tryd.ntmps9
      go_wp2_with fail
      refine (HSH.out _).mono ?_
      rintro e w1 ⟨rfl, k1⟩
      have B1 := Lib.hid (HBX.out.no k1)
      have hb2 : w1.cell? ⟨w.heap.size, 2, none⟩ = some (.string c) := B1.out.c2
      clear k1
      go_wp2_with fail
      go_ret
      exact ⟨rfl, B1.out.kp⟩
    | false =>
      have hI : ¬ (2000 : Int) < (n : Int) := by simp at htn; omega
      have hmI2 := hmt rfl
      clear htn hmt
      go_enter Tryd.func9, Tryd.ntmps9
      go_wp2_with fail
      refine (HSH.out _).mono ?_
      rintro e w1 ⟨rfl, k1⟩
      have B1 := Lib.hid (HBX.out.no k1)
      have hb2 : w1.cell? ⟨w.heap.size, 2, none⟩ = some (.string c) := B1.out.c2
      clear k1
      go_wp2_with fail
      go_ret
      exact ⟨rfl, B1.out.kp⟩
  · have hI : ¬ (2000 : Int) < (n : Int) := by omega
    have hI2 : ¬ (2000 : Int) < (m : Int) := by omega
    obtain ⟨f, hf⟩ : ∃ f : Flr, f = ⟨X, Y, c⟩ := ⟨_, rfl⟩
    have hfs : f.s.size ≤ 2000 := by rw [hf]; show c.size ≤ 2000; omega
    obtain ⟨rb, hrb⟩ : ∃ rb, rightB f = rb := ⟨_, rfl⟩
    have H1 := Lib.hid (right_at f (by omega) rb hrb)
    have H3 := Lib.hid (text_any f (by omega))
    obtain ⟨T, hT⟩ : ∃ T, T = textP f := ⟨_, rfl⟩
    have hTs : T.size ≤ 900000 := by
      rw [hT]; unfold textP
      split
      · rename_i hb
        have hR := rightB_iff.1 hb
        rw [mkB_size]
        refine Nat.le_trans (textTo_len _ _ _) ?_
        exact Nat.le_trans (Nat.mul_le_mul (show f.H.toNat ≤ 16 by have := hR.h2; omega) (show f.W.toNat + 1 ≤ 17 by have := hR.w2; omega)) (by decide)
      · exact Nat.zero_le _
    rw [← hT] at H3
    rw [hf] at H1 H3
    obtain ⟨⟨⟨A, B, S⟩, y, er⟩, hr⟩ : ∃ r, parseP s = r := ⟨_, rfl⟩
    have HP := Lib.hid (parse_at s (by omega) _ hr (.tuple #[.agg #[.int .i64 A, .int .i64 B, .string S], .int .i64 (y : Int), .int .i64 (er : Int)]) rfl)
    have HF := Lib.hid (half s hr)
    have HPT := Lib.hid (show rb = true → ∀ w, Calls Tryd.prog 11 #[.string T] w fun e w' => e = .returned (.tuple #[.agg #[.int .i64 X, .int .i64 Y, .string c], .int .i64 0, .int .i64 0]) ∧ Kp No w w' from fun h =>
      parse_at T (by omega) (f, 0, 0) (by rw [hT]; exact parse_text (hrb.trans h)) _ (by rw [hf]; rfl))
    have HTE := Lib.hid (show rb = false → T = ⟨#[]⟩ from fun h => by rw [hT]; unfold textP; rw [if_neg (by rw [hrb, h]; simp)])
    have hneq := neqFloor X Y c
    have heq0 := eqFloor 0 0 ⟨#[]⟩
    unfold Flr.val at H1 H3 ⊢
    simp only at H1 H3
    clear hf hrb hT hfs hn h hs hs2 hr
    go_enter Tryd.func9, Tryd.ntmps9
    go_wp2_with fail
    refine (HSH.out _).mono ?_
    rintro e w1 ⟨rfl, k1⟩
    have B1 := Lib.hid (HBX.out.no k1)
    have hb0 : w1.cell? ⟨w.heap.size, 0, none⟩ = some (.int .i64 X) := B1.out.c0
    have hb1 : w1.cell? ⟨w.heap.size, 1, none⟩ = some (.int .i64 Y) := B1.out.c1
    have hb2 : w1.cell? ⟨w.heap.size, 2, none⟩ = some (.string c) := B1.out.c2
    clear k1
    go_wp2_with fail
    refine (H1.out _).mono ?_
    rintro e w2 ⟨rfl, k2⟩
    have B2 := Lib.hid (B1.out.no k2)
    clear k2 hb0 hb1 hb2
    have hb0 : w2.cell? ⟨w.heap.size, 0, none⟩ = some (.int .i64 X) := B2.out.c0
    have hb1 : w2.cell? ⟨w.heap.size, 1, none⟩ = some (.int .i64 Y) := B2.out.c1
    have hb2 : w2.cell? ⟨w.heap.size, 2, none⟩ = some (.string c) := B2.out.c2
    go_upto_if 25 with fail
    go_cut [6, 7, 8, 26, 27, 28, 29, 30, 31, 32, 33, 34, 35, 36, 37, 38, 39, 40, 41, 42, 43, 44, 45, 46] (fun _ _ _ _ _ _ _ _ _ _ _ _ _ _ _ _ _ _ _ _ _ _ _ _ wx => Kp No w wx)
    case first =>
      cases rb with
      | true =>
        have HPT2 := HPT.out rfl
        go_wp2_with fail
        refine (H3.out _).mono ?_
        rintro e w3 ⟨rfl, k3⟩
        have B3 := Lib.hid (B2.out.no k3)
        clear k3 hb0 hb1 hb2
        go_wp2_with fail
        refine (HPT2 _).mono ?_
        rintro e w4 ⟨rfl, k4⟩
        have B4 := Lib.hid (fun o => B3.out.no (k4.alloc o))
        clear k4
        have hb0 : ∀ o, (w4.alloc o).cell? ⟨w.heap.size, 0, none⟩ = some (.int .i64 X) := fun o => (B4.out o).c0
        have hb1 : ∀ o, (w4.alloc o).cell? ⟨w.heap.size, 1, none⟩ = some (.int .i64 Y) := fun o => (B4.out o).c1
        have hb2 : ∀ o, (w4.alloc o).cell? ⟨w.heap.size, 2, none⟩ = some (.string c) := fun o => (B4.out o).c2
        go_wp2_with fail
        go_meet
        exact (B4.out _).kp
      | false =>
        obtain rfl := HTE.out rfl
        go_wp2_with fail
        refine (H3.out _).mono ?_
        rintro e w3 ⟨rfl, k3⟩
        have B3 := Lib.hid (B2.out.no k3)
        clear k3 hb0 hb1 hb2
        go_wp2_with fail
        go_meet
        exact B3.out.kp
    case rest =>
      have KC := Lib.hid hcut
      clear hcut hb0 hb1 hb2 H1 H3 HPT HTE B1 B2 hneq
      by_cases he : er = 0
      · have heb : ((er : Int) != 0) = false := by simp [he]
        have heb2 : (er != 0) = false := by simp [he]
        obtain ⟨hrg, hte⟩ := HF.out.ok he
        have HRG := Lib.hid (right_at ⟨A, B, S⟩ (by have := (rightB_iff.1 hrg).s256; omega) true hrg)
        have HTX := Lib.hid (text_any ⟨A, B, S⟩ (by have := (rightB_iff.1 hrg).s256; omega))
        obtain ⟨U, hU⟩ : ∃ U, U = textP ⟨A, B, S⟩ := ⟨_, rfl⟩
        rw [← hU] at hte HTX
        unfold Flr.val at HRG HTX
        simp only at HRG HTX
        have hsadd : s.size + 1 ≤ 9223372036854775807 := by omega
        have hsa : s.size + (ByteArray.mk #[10]).size ≤ 9223372036854775807 := hsadd
        have hop := fun w => run_string_add_sum (P := Tryd.prog) w s ⟨#[10]⟩ hsa
        have hsb : ¬ (9223372036854775807 < s.size + 1) := by omega
        clear hU hrg he hm
        have hUs : U = s ∨ (U = s ++ ⟨#[10]⟩ ∧ ¬ ((s ++ ⟨#[10]⟩ : ByteArray).toList = s.toList)) := by
          rcases hte with h | h
          · exact .inl h
          · refine .inr ⟨h, fun e => ?_⟩
            have := congrArg List.length e
            rw [Lib.toList_data, Lib.toList_data, ← Lib.size_eq, ← Lib.size_eq, ByteArray.size_append, show (ByteArray.mk #[10]).size = 1 from rfl] at this
            omega
        clear hte
        rcases hUs with rfl | ⟨rfl, hne⟩
        ·
          go_wp2_with fail
          refine (HP.out _).mono ?_
          rintro e w4 ⟨rfl, k4⟩
          have K4 := Lib.hid (KC.out.no k4)
          clear k4
          go_wp2_with fail
          obtain ⟨b9, hb9⟩ : ∃ b9, b9 = w4.heap.size := ⟨_, rfl⟩
          obtain ⟨w5, hw5⟩ : ∃ w5, w5 = w4.alloc (.cells #[.int .i64 A, .int .i64 B, .string S] 24) := ⟨_, rfl⟩
          have B5 := Lib.hid (show BxW (Flr.mk A B S) b9 w w5 by rw [hw5, hb9]; exact ⟨blk_new w4 _, K4.out.alloc _⟩)
          rw [← hw5, ← hb9]
          clear hw5 hb9 K4
          refine (HTX.out _).mono ?_
          rintro e w6 ⟨rfl, k6⟩
          have B6 := Lib.hid (B5.out.no k6)
          clear k6
          have hb0 : w6.cell? ⟨b9, 0, none⟩ = some (.int .i64 A) := B6.out.c0
          have hb1 : w6.cell? ⟨b9, 1, none⟩ = some (.int .i64 B) := B6.out.c1
          have hb2 : w6.cell? ⟨b9, 2, none⟩ = some (.string S) := B6.out.c2
          go_wp2_with fail
          refine (HRG.out _).mono ?_
          rintro e w7 ⟨rfl, k7⟩
          have K7 := Lib.hid (B6.out.kp.no k7)
          clear k7
          go_wp2_with fail
          go_ret
          exact ⟨rfl, K7.out⟩
        ·
          go_wp2_with fail
          refine (HP.out _).mono ?_
          rintro e w4 ⟨rfl, k4⟩
          have K4 := Lib.hid (KC.out.no k4)
          clear k4
          go_wp2_with fail
          obtain ⟨b9, hb9⟩ : ∃ b9, b9 = w4.heap.size := ⟨_, rfl⟩
          obtain ⟨w5, hw5⟩ : ∃ w5, w5 = w4.alloc (.cells #[.int .i64 A, .int .i64 B, .string S] 24) := ⟨_, rfl⟩
          have B5 := Lib.hid (show BxW (Flr.mk A B S) b9 w w5 by rw [hw5, hb9]; exact ⟨blk_new w4 _, K4.out.alloc _⟩)
          rw [← hw5, ← hb9]
          clear hw5 hb9 K4
          refine (HTX.out _).mono ?_
          rintro e w6 ⟨rfl, k6⟩
          have B6 := Lib.hid (B5.out.no k6)
          clear k6
          have hb0 : w6.cell? ⟨b9, 0, none⟩ = some (.int .i64 A) := B6.out.c0
          have hb1 : w6.cell? ⟨b9, 1, none⟩ = some (.int .i64 B) := B6.out.c1
          have hb2 : w6.cell? ⟨b9, 2, none⟩ = some (.string S) := B6.out.c2
          go_wp2_with fail
          refine (HRG.out _).mono ?_
          rintro e w7 ⟨rfl, k7⟩
          have K7 := Lib.hid (B6.out.kp.no k7)
          clear k7
          go_wp2_with fail
          go_ret
          exact ⟨rfl, K7.out⟩
      · have heb : ((er : Int) != 0) = true := by simp; omega
        have heb2 : (er != 0) = true := by simp; omega
        have hz := HF.out.no he
        have h1 : A = 0 := congrArg Flr.W hz
        have h2 : B = 0 := congrArg Flr.H hz
        have h3 : S = ⟨#[]⟩ := congrArg Flr.s hz
        subst h1 h2 h3
        clear hz he HF
        go_wp2_with fail
        refine (HP.out _).mono ?_
        rintro e w4 ⟨rfl, k4⟩
        have K4 := Lib.hid ((KC.out.no k4).alloc (.cells #[.int .i64 0, .int .i64 0, .string ⟨#[]⟩] 24))
        clear k4
        go_wp2_with fail
        go_ret
        exact ⟨rfl, K4.out⟩
end Go.Proofs.YtolkkinophklcaaDoor
