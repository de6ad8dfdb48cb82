/- LinkOnce: the walk. -/
import Derived.Test.YtnejjjoedmefkaaOnH
import Derived.Test.YtnejjjoedmefkaaOnA
import Derived.Test.YtnejjjoedmefkaaLwA
import Derived.Test.YtnejjjoedmefkaaAct14
import Derived.Deep.LoopGhost
import Derived.Deep.CutBlock
import Derived.Deep.DeepCutAuto
import Derived.Deep.Cut
import Derived.Deep.CutRange
namespace Go.Proofs.Ytnejjjoedmefkaa
set_option linter.unusedVariables false
set_option linter.unusedSimpArgs false
open Go.RowKit

def OnI (w : World) (ps pr pt pf bh br bf k : Nat) (Tv : Value) (wr : World) : Prop := ∃ n on d V Vt Vf Hv T H tq fr, OnS w ps pr pt pf bh br bf n on d V Vt Vf Tv Hv T H tq fr wr ∧ OnP k n on d T H tq fr

theorem told_q {w : World} {p told : Nat} {tells : Bool} {data : List Nat} {V : Value} (h : SndS p told tells data V w) (n : Nat) : Calls Try.prog 27 #[.pointer (some ⟨p, 0, none⟩)] (w.drewN n) fun e w' => e = .returned (.int .u64 (told : Int)) ∧ w' = w.drewN n :=
  (told_any (h.no ((Kp.refl No w).drewN n))).mono fun _ _ ⟨a, b⟩ => ⟨a, b.symm⟩
theorem heard_q {w : World} {p heard : Nat} (h : RcvS p heard w) (n : Nat) : Calls Try.prog 28 #[.pointer (some ⟨p, 0, none⟩)] (w.drewN n) fun e w' => e = .returned (.int .u64 (heard : Int)) ∧ w' = w.drewN n :=
  (heard_any (h.no ((Kp.refl No w).drewN n))).mono fun _ _ ⟨a, b⟩ => ⟨a, b.symm⟩

set_option maxHeartbeats 4000000 in
set_option maxRecDepth 100000 in
theorem once_any {w : World} {v : Value} {l : List S14} (hv : Rd SK14 w v l) (hg : ∀ x ∈ l, x.ok w) : Calls Try.prog 9 #[v] w (LawR w) := by
  obtain ⟨A, cap, rfl⟩ := hv.shape
  have HL := Lib.hid (show l.length ≤ maxLen by
    rcases hv with ⟨_, rfl⟩ | ⟨_, _, _, _, h1, h2, _⟩
    · simp
    · omega)
  have H := Lib.hid hv; have HG := Lib.hid hg
  clear hv hg
  go_enter Try.func9, Try.ntmps9
  go_wp2_with fail
  refine (shown14 _).mono ?_
  rintro e w1 ⟨rfl, k1⟩
  have K1 := Lib.hid k1
  clear k1
  go_wp2_with fail
  refine (newSnd_any w1 0 (by decide) _ rfl).mono ?_
  rintro e w2 ⟨ps, rfl, s2, k2, g2, l2⟩
  have S2 := Lib.hid s2; have K2 := Lib.hid (K1.out.trans k2); have G2 := Lib.hid (Nat.le_trans K1.out.size g2)
  clear s2 k2 g2 l2
  go_wp2_with fail
  refine (newRcv_any w2 0 (by decide) _ rfl).mono ?_
  rintro e w3 ⟨pr, rfl, r3, k3, g3, l3⟩
  have S3 := Lib.hid (S2.out.no k3); have R3 := Lib.hid r3; have K3 := Lib.hid (K2.out.trans k3)
  have G3 := Lib.hid (Nat.le_trans K2.out.size g3)
  clear r3 k3 g3 l3
  go_wp2_with fail
  refine (newNet_any _).mono ?_
  rintro e w4 ⟨pt, rfl, t4, k4, g4, l4⟩
  have K4 := Lib.hid (((Kp.refl No w3).alloc (.cells #[.pointer (some ⟨pr, 0, none⟩)] 39)).trans k4)
  have B4 := Lib.hid (k4.blk (blk_new w3 (.cells #[.pointer (some ⟨pr, 0, none⟩)] 39)) (no_no _))
  obtain ⟨br, hbr⟩ : ∃ br, br = w3.heap.size := ⟨_, rfl⟩
  rw [← hbr] at B4 ⊢
  have G4 := Lib.hid (show w3.heap.size + 1 ≤ pt by simpa using g4)
  have T4 := Lib.hid t4
  have BR := Lib.hid (show w.heap.size ≤ br by rw [hbr]; exact K3.out.size)
  clear t4 k4 g4 hbr
  go_wp2_with fail
  refine (newNet_any w4).mono ?_
  rintro e w5 ⟨pf, rfl, f5, k5, g5, l5⟩
  have L4 := Lib.hid l4
  have K5 := Lib.hid ((K3.out.trans K4.out).trans k5)
  have S5 := Lib.hid ((S3.out.no K4.out).no k5); have R5 := Lib.hid ((R3.out.no K4.out).no k5); have T5 := Lib.hid (T4.out.no k5); have F5 := Lib.hid f5
  have B5 := Lib.hid (k5.blk B4.out (no_no _))
  have OB : Hid (OnB w ps pr pt pf (w5.heap.size + 1) br w5.heap.size) := Lib.hid ⟨G2.out, G3.out, by have := G4.out; have := K3.out.size; omega, by have := K3.out.size; have := K4.out.size; omega, by have := K5.out.size; omega, BR.out, K5.out.size, by omega⟩
  have c1 : ∀ o, (w5.alloc o).cell? ⟨br, 0, none⟩ = some (.pointer (some ⟨pr, 0, none⟩)) := fun o => (blk_cell (blk_alloc B5.out o) 0).trans rfl
  clear f5 k5 g5 l4 l5
  go_wp2_with fail
  have I0 : Hid (OnI w ps pr pt pf (w5.heap.size + 1) br w5.heap.size 0 (.slice none 0 0) ((w5.alloc (.cells #[.pointer (some ⟨pf, 0, none⟩)] 64)).alloc (.cells #[.slice none 0 0] 66))) := Lib.hid ⟨0, false, [], .slice none 0 0, .slice none 0 0, .slice none 0 0, .slice none 0 0, [], [], [], [],
    ⟨(S5.out.no ((Kp.refl No w5).alloc _)).no ((Kp.refl No _).alloc _), (R5.out.no ((Kp.refl No w5).alloc _)).no ((Kp.refl No _).alloc _), (T5.out.no ((Kp.refl No w5).alloc _)).no ((Kp.refl No _).alloc _), (F5.out.no ((Kp.refl No w5).alloc _)).no ((Kp.refl No _).alloc _), Own.nil _ _ _,
      (by have := blk_new (w5.alloc (.cells #[.pointer (some ⟨pf, 0, none⟩)] 64)) (.cells #[.slice none 0 0] 66); simpa using this), Own.nil _ _ _, blk_alloc (blk_alloc B5.out _) _, blk_alloc (blk_new _ _) _, (K5.out.alloc _).alloc _,
      by simp [Value.ownBlock], by simp [Value.ownBlock], by simp [Value.ownBlock], by simp [Value.ownBlock], by simp [Value.ownBlock], by simp [Value.ownBlock]⟩, OnP.start⟩
  clear c1
  obtain ⟨bh, hbh⟩ : ∃ bh, bh = w5.heap.size + 1 := ⟨_, rfl⟩
  obtain ⟨bf, hbf⟩ : ∃ bf, bf = w5.heap.size := ⟨_, rfl⟩
  rw [← hbh, ← hbf] at I0 OB
  obtain ⟨w6, hw6⟩ : ∃ w6, w6 = (w5.alloc (.cells #[.pointer (some ⟨pf, 0, none⟩)] 64)).alloc (.cells #[.slice none 0 0] 66) := ⟨_, rfl⟩
  rw [← hw6] at I0
  rw [← hw6, ← hbh, ← hbf]
  clear hw6 hbh hbf
  go_loopg [8, 42] (l.length + 1) (fun g tv i wr => ∃ k : Nat, g = l.length + 1 - k ∧ i = .int .i64 k ∧ k ≤ l.length ∧ k ≤ 200 ∧ OnI w ps pr pt pf bh br bf k tv wr)
  case atStart => exact ⟨0, rfl, rfl, by omega, by omega, I0.out⟩
  case round =>
    obtain ⟨k, hgh, rfl, hk, hk2, I⟩ := hrel
    have IH := Lib.hid I
    by_cases hlt : k < l.length
    · have hltI : (k : Int) < (l.length : Int) := by omega
      have hml := HL.out
      have hwk : IntKind.i64.wrap ((k : Int) + 1) = (k : Int) + 1 := IntWalk.i64_in _ (by unfold maxLen at hml; omega)
      obtain ⟨x, hx⟩ : ∃ x, l[k]? = some x := ⟨_, List.getElem?_eq_getElem hlt⟩
      have hxo := HG.out x (List.mem_of_getElem? hx)
      have HK : Hid (Kp No w wr) := (by obtain ⟨_, _, _, _, _, _, _, _, _, _, _, q, _⟩ := I; exact Lib.hid q.kp)
      rcases H.out with ⟨_, he⟩ | ⟨g, o, cap', hv, _⟩
      · rw [he] at hlt; simp at hlt
      simp only [Value.slice.injEq] at hv
      obtain ⟨rfl, _, rfl⟩ := hv
      obtain ⟨hc0, hc1, hc2⟩ := (H.out.kpNo HK.out).stepAt hx
      have XO := Lib.hid hxo
      have hk256 := hxo.2.1
      clear I hx hxo hlt hml
      by_cases h200 : k < 200
      · have h2I : ¬ (200 : Int) ≤ (k : Int) := by omega
        clear h200
        obtain ⟨km, hkm⟩ : ∃ km, km = x.k % 8 := ⟨_, rfl⟩
        have kmI : (x.k : Int) % 8 = (km : Int) := by omega
        obtain ⟨n, on, d, V, Vt, Vf, Hv, T, Hl, tq, fr, PS, QP⟩ := IH.out
        have P1 := Lib.hid (PS.no ((Kp.refl No wr).alloc (.cells #[.int .u8 (x.k : Int), .slice x.s.A x.s.b.length x.s.c, .int .i64 x.t] 69)))
        have XO1 := Lib.hid (show x.ok (wr.alloc (.cells #[.int .u8 (x.k : Int), .slice x.s.A x.s.b.length x.s.c, .int .i64 x.t] 69)) from ⟨XO.out.1.kpNo (HK.out.alloc _), XO.out.2⟩)
        have QP := Lib.hid QP
        have hm8 : km = 0 ∨ km = 1 ∨ km = 2 ∨ km = 3 ∨ km = 4 ∨ km = 5 ∨ km = 6 ∨ km = 7 := by omega
        clear PS hkm
        go_upto_block 2 with fail
        obtain ⟨bx, hbx⟩ : ∃ bx, bx = wr.heap.size := ⟨_, rfl⟩
        obtain ⟨wb, hwb⟩ : ∃ wb, wb = wr.alloc (.cells #[.int .u8 (x.k : Int), .slice x.s.A x.s.b.length x.s.c, .int .i64 x.t] 69) := ⟨_, rfl⟩
        have BX := Lib.hid (show wb.heap[bx]? = some (.cells #[.int .u8 (x.k : Int), .slice x.s.A x.s.b.length x.s.c, .int .i64 x.t] 69 (0, 0)) by rw [hwb, hbx]; exact blk_new _ _)
        rw [← hwb] at P1 XO1
        rw [← hwb, ← hbx]
        have q0 : wb.cell? ⟨bx, 0, none⟩ = some (.int .u8 (x.k : Int)) := (blk_cell BX.out 0).trans rfl
        have q1 : wb.cell? ⟨bx, 1, none⟩ = some (.slice x.s.A x.s.b.length x.s.c) := (blk_cell BX.out 1).trans rfl
        have q2 : wb.cell? ⟨bx, 2, none⟩ = some (.int .i64 x.t) := (blk_cell BX.out 2).trans rfl
        have KR := Lib.hid (show k < 1000 by omega)
        have HLT := Lib.hid (show k + 1 ≤ l.length ∧ k + 1 ≤ 200 by omega)
        clear hwb hbx hc0 hc1 hc2 hltI h2I hk2
        go_cut [8, 51] (fun tv _ wx => OnI w ps pr pt pf bh br bf (k + 1) tv wx)
        case first =>
          rcases hm8 with rfl | rfl | rfl | rfl | rfl | rfl | rfl | rfl
          · by_cases hln : x.s.b.length ≤ 200
            · have hlnI : (x.s.b.length : Int) ≤ 200 := by omega
              obtain ⟨s, As, cs, HS, hsl, hrun0, HD, HDO⟩ := Rd.upto2 elB XO1.out.1.1 x.s.b.length (by omega) (x.s.b.length : Int) rfl
              have hrun : ∀ w', (Instr.slice 23 (.slice x.s.A x.s.b.length x.s.c) none (some (.int .i64 (x.s.b.length : Int))) none).run Try.prog w' = .ok (.slice As s.length cs) w' := hrun0
              have HRUN := Lib.hid hrun0
              have hs2 : s.length ≤ 200 := by omega
              have HSX : Hid (∀ y ∈ s, y < 256) := Lib.hid fun y hy => XO.out.1.2 y (by rw [HS.out] at hy; exact List.mem_of_mem_take hy)
              have HSL := Lib.hid hsl
              have hs6 : s.length ≤ 1000000 := by omega
              clear hrun0 hsl
              cases on with
              | true =>
                go_wp2_with fail
                refine (tell_any P1.out.s HD.out hs6 HSX.out).mono ?_
                rintro e w7 ⟨rfl, k7, V7, s7, v7⟩
                rw [tell_thereO] at s7 ⊢
                rw [if_neg (by decide)] at s7
                have P7 := Lib.hid (P1.out.setS OB.out k7 s7)
                clear k7 s7 v7
                go_wp2_with fail
                go_meet
                exact ⟨_, _, _, _, _, _, _, _, _, _, _, P7.out, QP.out.more KR.out⟩
              | false =>
                have TE := Lib.hid (tell_okO n s (by have h1 := QP.out.len; have h2 := QP.out.tl; have := KR.out; omega) hs2)
                go_wp2_with fail
                refine (tell_any P1.out.s HD.out hs6 HSX.out).mono ?_
                rintro e w7 ⟨rfl, k7, V7, s7, v7⟩
                rw [TE.out] at s7 ⊢
                have s7' : SndS ps n true s V7 w7 := by simpa using s7
                have P7 := Lib.hid (P1.out.setS OB.out k7 s7')
                have q17 : w7.cell? ⟨bx, 1, none⟩ = some (.slice x.s.A x.s.b.length x.s.c) := (blk_cell (k7.blk BX.out ((Ty.one P1.out.s.blk).not BX.out (by decide))) 1).trans rfl
                have st7 := (Rd.upto_det elB ((XO.out.1.kpNo P7.out.kp).1) x.s.b.length (by have := HSL.out; omega) (x.s.b.length : Int) rfl HRUN.out)
                have HST := Lib.hid (show Rd BK w7 (.slice As s.length cs) s by rw [HS.out] at st7 ⊢; exact st7)
                have st8 := HST.out.str
                have tl7 : T.length ≤ 1000 := by have h2 := QP.out.tl; have := KR.out; omega
                clear k7 s7 s7' v7 st7
                go_wp2_with (at_builtin; refine wpl_append elST rfl (.tmp 68) (.tmp 77) rfl rfl rfl (l := T) (m := [s]) ?c1 ?c2 ?c3 ?c4 ?c5)
                case c1 => exact P7.out.tv.alloc _
                case c2 => exact rd_oneS _ s
                case c3 => unfold maxLen; simp; omega
                case c4 => simp; omega
                case c5 =>
                  intro v8 w8 m1 m2 m3
                  have P8 := Lib.hid ((P7.out.no ((Kp.refl No w7).alloc _)).setL m2 m1 (fun g hg => (m3 g hg).imp id fun h => by simpa using h))
                  clear m1 m2 m3
                  go_wp2_with fail
                  go_meet
                  exact ⟨_, _, _, _, _, _, _, _, _, _, _, P8.out, QP.out.tell KR.out s hs2 HSX.out⟩
            · have hlnI : ¬ (x.s.b.length : Int) ≤ 200 := by omega
              obtain ⟨s, As, cs, HS, hsl, hrun0, HD, HDO⟩ := Rd.upto2 elB XO1.out.1.1 200 (by omega) (200 : Int) (by decide)
              have hrun : ∀ w', (Instr.slice 23 (.slice x.s.A x.s.b.length x.s.c) none (some (.int .i64 (200 : Int))) none).run Try.prog w' = .ok (.slice As s.length cs) w' := hrun0
              have HRUN := Lib.hid hrun0
              have hs2 : s.length ≤ 200 := by omega
              have HSX : Hid (∀ y ∈ s, y < 256) := Lib.hid fun y hy => XO.out.1.2 y (by rw [HS.out] at hy; exact List.mem_of_mem_take hy)
              have HSL := Lib.hid hsl
              have hs6 : s.length ≤ 1000000 := by omega
              clear hrun0 hsl
              cases on with
              | true =>
                go_wp2_with fail
                refine (tell_any P1.out.s HD.out hs6 HSX.out).mono ?_
                rintro e w7 ⟨rfl, k7, V7, s7, v7⟩
                rw [tell_thereO] at s7 ⊢
                rw [if_neg (by decide)] at s7
                have P7 := Lib.hid (P1.out.setS OB.out k7 s7)
                clear k7 s7 v7
                go_wp2_with fail
                go_meet
                exact ⟨_, _, _, _, _, _, _, _, _, _, _, P7.out, QP.out.more KR.out⟩
              | false =>
                have TE := Lib.hid (tell_okO n s (by have h1 := QP.out.len; have h2 := QP.out.tl; have := KR.out; omega) hs2)
                go_wp2_with fail
                refine (tell_any P1.out.s HD.out hs6 HSX.out).mono ?_
                rintro e w7 ⟨rfl, k7, V7, s7, v7⟩
                rw [TE.out] at s7 ⊢
                have s7' : SndS ps n true s V7 w7 := by simpa using s7
                have P7 := Lib.hid (P1.out.setS OB.out k7 s7')
                have q17 : w7.cell? ⟨bx, 1, none⟩ = some (.slice x.s.A x.s.b.length x.s.c) := (blk_cell (k7.blk BX.out ((Ty.one P1.out.s.blk).not BX.out (by decide))) 1).trans rfl
                have st7 := (Rd.upto_det elB ((XO.out.1.kpNo P7.out.kp).1) 200 (by have := HSL.out; omega) (200 : Int) (by decide) HRUN.out)
                have HST := Lib.hid (show Rd BK w7 (.slice As s.length cs) s by rw [HS.out] at st7 ⊢; exact st7)
                have st8 := HST.out.str
                have tl7 : T.length ≤ 1000 := by have h2 := QP.out.tl; have := KR.out; omega
                clear k7 s7 s7' v7 st7
                go_wp2_with (at_builtin; refine wpl_append elST rfl (.tmp 68) (.tmp 77) rfl rfl rfl (l := T) (m := [s]) ?c1 ?c2 ?c3 ?c4 ?c5)
                case c1 => exact P7.out.tv.alloc _
                case c2 => exact rd_oneS _ s
                case c3 => unfold maxLen; simp; omega
                case c4 => simp; omega
                case c5 =>
                  intro v8 w8 m1 m2 m3
                  have P8 := Lib.hid ((P7.out.no ((Kp.refl No w7).alloc _)).setL m2 m1 (fun g hg => (m3 g hg).imp id fun h => by simpa using h))
                  clear m1 m2 m3
                  go_wp2_with fail
                  go_meet
                  exact ⟨_, _, _, _, _, _, _, _, _, _, _, P8.out, QP.out.tell KR.out s hs2 HSX.out⟩
          · cases on with
            | false =>
              go_wp2_with fail
              refine (packet_any P1.out.s).mono ?_
              rintro e w7 ⟨v7, rfl, k7⟩
              obtain ⟨A7, c7, rfl⟩ := k7.own.rd.shape
              have P7 := Lib.hid (P1.out.no k7.kp)
              clear k7
              go_wp2_with fail
              go_meet
              exact ⟨_, _, _, _, _, _, _, _, _, _, _, P7.out, QP.out.more KR.out⟩
            | true =>
              go_wp2_with fail
              refine (packet_any P1.out.s).mono ?_
              rintro e w7 ⟨v7, rfl, k7⟩
              have k7 : NewS BK 5 wb w7 v7 (layL false (n + 1) d) := k7
              obtain ⟨F, hF⟩ : ∃ F, F = layL false (n + 1) d := ⟨_, rfl⟩
              rw [← hF] at k7
              obtain ⟨A7, c7, rfl⟩ := k7.own.rd.shape
              have P7 := Lib.hid (P1.out.no k7.kp)
              have K7 := Lib.hid k7
              have HF := Lib.hid hF
              have hFl : F.length ≤ 1000000 := by rw [hF]; exact Nat.le_trans (layL_len _ _ _ (by have := (P1.out.s.ok rfl).1; omega)) (by decide)
              have HFX := Lib.hid (show ∀ y ∈ F, y < 256 by rw [hF]; exact layL_lt _ _ _)
              clear k7 hF
              go_wp2_with fail
              refine (send_any P7.out.t K7.out.own.rd hFl HFX.out).mono ?_
              rintro e w8 (⟨_, rfl, V8, y, hy, n8, k8, v8⟩ | ⟨h8, _⟩)
              · have P8 := Lib.hid (P7.out.setT OB.out k8 n8 v8)
                have Q8 := Lib.hid (QP.out.send KR.out y (by rw [hy]; exact HF.out))
                clear n8 k8 v8
                go_wp2_with fail
                go_meet
                exact ⟨_, _, _, _, _, _, _, _, _, _, _, P8.out, Q8.out⟩
              · exact absurd h8 (by have := QP.out.tol; have := KR.out; omega)
          · go_wp2_with fail
            refine (takeN_any P1.out.t QP.out.smallT QP.out.smallN x.t XO.out.2.2).mono ?_
            rintro e w7 ⟨v7, rfl, o7, g7, ⟨⟨V7, n7, u7⟩, k7⟩⟩
            have O7 := Lib.hid o7
            have P7 := Lib.hid (P1.out.setT OB.out k7 n7 (fun g hg => .inl (u7 g hg)))
            have Q7 := Lib.hid (QP.out.sub (delB_mem (l := tq) (x := x.t)).1 (fun y hy => hy) (delB_mem (l := tq) (x := x.t)).2 (Nat.le_refl _))
            have HF7 : Hid (hasB tq.length x.t = true → ∃ i e, T[i]? = some e ∧ atB tq x.t = layL false (i + 1) e) := Lib.hid fun h => by
              obtain ⟨y, hy, he⟩ := atB_mem h
              obtain ⟨i, e, h1, h2⟩ := QP.out.tos y hy
              exact ⟨i, e, h1, he.trans h2⟩
            clear o7 g7 n7 u7 k7
            go_wp2_with fail
            refine (hears_any P7.out OB.out Q7.out KR.out O7.out.rd _ HF7.out).mono ?_
            rintro e w8 ⟨rfl, Vf8, Hv8, Hl8, fr8, P8, Q8⟩
            have P8 := Lib.hid P8
            have Q8 := Lib.hid Q8
            go_wp2_with fail
            go_meet
            exact ⟨_, _, _, _, _, _, _, _, _, _, _, P8.out, Q8.out⟩
          · have z7 : wb.cell? ⟨bf, 0, none⟩ = some (.pointer (some ⟨pf, 0, none⟩)) := (blk_cell P1.out.fb 0).trans rfl
            obtain ⟨hb, hhb⟩ : ∃ hb, hb = hasB fr.length x.t := ⟨_, rfl⟩
            have HH := Lib.hid hhb
            obtain ⟨F, hF⟩ : ∃ F, F = atB fr x.t := ⟨_, rfl⟩
            have HFE := Lib.hid hF
            clear hhb hF
            cases hb with
            | false =>
              go_wp2_with fail
              refine (takeN_any P1.out.f QP.out.smallF QP.out.smallM x.t XO.out.2.2).mono ?_
              rintro e w7 ⟨v7, rfl, o7, g7, ⟨⟨V7, n7, u7⟩, k7⟩⟩
              have O7 := Lib.hid o7
              rw [← HH.out]
              rw [← HFE.out] at O7
              obtain ⟨A7, c7, rfl⟩ := O7.out.rd.shape
              have P7 := Lib.hid (P1.out.setF OB.out k7 n7 (fun g hg => .inl (u7 g hg)))
              have Q7 := Lib.hid (QP.out.sub (fun y hy => hy) (delB_mem (l := fr) (x := x.t)).1 (Nat.le_refl _) (delB_mem (l := fr) (x := x.t)).2)
              clear o7 g7 n7 u7 k7
              go_wp2_with fail
              go_meet
              exact ⟨_, _, _, _, _, _, _, _, _, _, _, P7.out, Q7.out.more KR.out⟩
            | true =>
              have HJ : Hid (∃ j, 1 ≤ j ∧ j ≤ Hl.length ∧ F = layL true j []) := Lib.hid (by
                obtain ⟨y, hy, he⟩ := atB_mem HH.out.symm
                obtain ⟨j, h1, h2, h3⟩ := QP.out.frs y hy
                exact ⟨j, h1, h2, by rw [HFE.out, he]; exact h3⟩)
              have hFl : F.length ≤ 1000000 := by
                obtain ⟨j, h1, h2, h3⟩ := HJ.out
                rw [h3]; exact Nat.le_trans (layL_len _ _ _ (by have h2 := QP.out.le; have := QP.out.tl; have := KR.out; omega)) (by decide)
              have HFX := Lib.hid (show ∀ y ∈ F, y < 256 by
                obtain ⟨j, h1, h2, h3⟩ := HJ.out
                rw [h3]; exact layL_lt _ _ _)
              go_wp2_with fail
              refine (takeN_any P1.out.f QP.out.smallF QP.out.smallM x.t XO.out.2.2).mono ?_
              rintro e w7 ⟨v7, rfl, o7, g7, ⟨⟨V7, n7, u7⟩, k7⟩⟩
              have O7 := Lib.hid o7
              rw [← HH.out]
              rw [← HFE.out] at O7
              obtain ⟨A7, c7, rfl⟩ := O7.out.rd.shape
              have P7 := Lib.hid (P1.out.setF OB.out k7 n7 (fun g hg => .inl (u7 g hg)))
              have Q7 := Lib.hid (QP.out.sub (fun y hy => hy) (delB_mem (l := fr) (x := x.t)).1 (Nat.le_refl _) (delB_mem (l := fr) (x := x.t)).2)
              clear o7 g7 n7 u7 k7
              go_wp2_with fail
              refine (shear_any P7.out.s O7.out.rd hFl HFX.out).mono ?_
              rintro e w8 ⟨rfl, k8, s8⟩
              have P8 := Lib.hid (P7.out.setS OB.out k8 s8)
              have Q8 : Hid (OnP k (if heardB n on F then n + 1 else n) (on && !heardB n on F) (if heardB n on F then [] else d) T Hl tq _) := (by
                obtain ⟨j, h1, h2, h3⟩ := HJ.out
                exact Lib.hid (Q7.out.back h1 h2 h3))
              clear k8 s8
              go_wp2_with fail
              go_meet
              exact ⟨_, _, _, _, _, _, _, _, _, _, _, P8.out, Q8.out.more KR.out⟩
          · go_wp2_with fail
            refine (peek_any P1.out.t QP.out.smallT QP.out.smallN x.t).mono ?_
            rintro e w7 ⟨v7, rfl, k7⟩
            have O7 := Lib.hid k7.own
            have P7 := Lib.hid (P1.out.no k7.kp)
            have Q7 := QP
            have HF7 : Hid (hasB tq.length x.t = true → ∃ i e, T[i]? = some e ∧ atB tq x.t = layL false (i + 1) e) := Lib.hid fun h => by
              obtain ⟨y, hy, he⟩ := atB_mem h
              obtain ⟨i, e, h1, h2⟩ := QP.out.tos y hy
              exact ⟨i, e, h1, he.trans h2⟩
            clear k7
            go_wp2_with fail
            refine (hears_any P7.out OB.out Q7.out KR.out O7.out.rd _ HF7.out).mono ?_
            rintro e w8 ⟨rfl, Vf8, Hv8, Hl8, fr8, P8, Q8⟩
            have P8 := Lib.hid P8
            have Q8 := Lib.hid Q8
            go_wp2_with fail
            go_meet
            exact ⟨_, _, _, _, _, _, _, _, _, _, _, P8.out, Q8.out⟩
          · have z7 : wb.cell? ⟨bf, 0, none⟩ = some (.pointer (some ⟨pf, 0, none⟩)) := (blk_cell P1.out.fb 0).trans rfl
            obtain ⟨hb, hhb⟩ : ∃ hb, hb = hasB fr.length x.t := ⟨_, rfl⟩
            have HH := Lib.hid hhb
            obtain ⟨F, hF⟩ : ∃ F, F = atB fr x.t := ⟨_, rfl⟩
            have HFE := Lib.hid hF
            clear hhb hF
            cases hb with
            | false =>
              go_wp2_with fail
              refine (peek_any P1.out.f QP.out.smallF QP.out.smallM x.t).mono ?_
              rintro e w7 ⟨v7, rfl, k7⟩
              have O7 := Lib.hid k7.own
              rw [← HH.out]
              rw [← HFE.out] at O7
              obtain ⟨A7, c7, rfl⟩ := O7.out.rd.shape
              have P7 := Lib.hid (P1.out.no k7.kp)
              have Q7 := QP
              clear k7
              go_wp2_with fail
              go_meet
              exact ⟨_, _, _, _, _, _, _, _, _, _, _, P7.out, Q7.out.more KR.out⟩
            | true =>
              have HJ : Hid (∃ j, 1 ≤ j ∧ j ≤ Hl.length ∧ F = layL true j []) := Lib.hid (by
                obtain ⟨y, hy, he⟩ := atB_mem HH.out.symm
                obtain ⟨j, h1, h2, h3⟩ := QP.out.frs y hy
                exact ⟨j, h1, h2, by rw [HFE.out, he]; exact h3⟩)
              have hFl : F.length ≤ 1000000 := by
                obtain ⟨j, h1, h2, h3⟩ := HJ.out
                rw [h3]; exact Nat.le_trans (layL_len _ _ _ (by have h2 := QP.out.le; have := QP.out.tl; have := KR.out; omega)) (by decide)
              have HFX := Lib.hid (show ∀ y ∈ F, y < 256 by
                obtain ⟨j, h1, h2, h3⟩ := HJ.out
                rw [h3]; exact layL_lt _ _ _)
              go_wp2_with fail
              refine (peek_any P1.out.f QP.out.smallF QP.out.smallM x.t).mono ?_
              rintro e w7 ⟨v7, rfl, k7⟩
              have O7 := Lib.hid k7.own
              rw [← HH.out]
              rw [← HFE.out] at O7
              obtain ⟨A7, c7, rfl⟩ := O7.out.rd.shape
              have P7 := Lib.hid (P1.out.no k7.kp)
              have Q7 := QP
              clear k7
              go_wp2_with fail
              refine (shear_any P7.out.s O7.out.rd hFl HFX.out).mono ?_
              rintro e w8 ⟨rfl, k8, s8⟩
              have P8 := Lib.hid (P7.out.setS OB.out k8 s8)
              have Q8 : Hid (OnP k (if heardB n on F then n + 1 else n) (on && !heardB n on F) (if heardB n on F then [] else d) T Hl tq _) := (by
                obtain ⟨j, h1, h2, h3⟩ := HJ.out
                exact Lib.hid (Q7.out.back h1 h2 h3))
              clear k8 s8
              go_wp2_with fail
              go_meet
              exact ⟨_, _, _, _, _, _, _, _, _, _, _, P8.out, Q8.out.more KR.out⟩
          · go_wp2_with fail
            refine (lose_any P1.out.t QP.out.smallT QP.out.smallN x.t XO.out.2.2).mono ?_
            rintro e w7 ⟨rfl, ⟨⟨V7, n7, u7⟩, k7⟩⟩
            have P7 := Lib.hid (P1.out.setT OB.out k7 n7 (fun g hg => .inl (u7 g hg)))
            have Q7 := Lib.hid (QP.out.sub (delB_mem (l := tq) (x := x.t)).1 (fun y hy => hy) (delB_mem (l := tq) (x := x.t)).2 (Nat.le_refl _))
            clear n7 u7 k7
            go_wp2_with fail
            go_meet
            exact ⟨_, _, _, _, _, _, _, _, _, _, _, P7.out, Q7.out.more KR.out⟩
          · have z7 : wb.cell? ⟨bf, 0, none⟩ = some (.pointer (some ⟨pf, 0, none⟩)) := (blk_cell P1.out.fb 0).trans rfl
            go_wp2_with fail
            refine (lose_any P1.out.f QP.out.smallF QP.out.smallM x.t XO.out.2.2).mono ?_
            rintro e w7 ⟨rfl, ⟨⟨V7, n7, u7⟩, k7⟩⟩
            have P7 := Lib.hid (P1.out.setF OB.out k7 n7 (fun g hg => .inl (u7 g hg)))
            have Q7 := Lib.hid (QP.out.sub (fun y hy => hy) (delB_mem (l := fr) (x := x.t)).1 (Nat.le_refl _) (delB_mem (l := fr) (x := x.t)).2)
            clear n7 u7 k7
            go_wp2_with fail
            go_meet
            exact ⟨_, _, _, _, _, _, _, _, _, _, _, P7.out, Q7.out.more KR.out⟩
        case rest =>
          obtain ⟨n, on, d, V, Vt, Vf, Hv, T, Hl, tq, fr, PS, QP⟩ := hcut
          obtain ⟨At, ct, rfl⟩ := PS.tv.rd.shape
          obtain ⟨Ah, ch, rfl⟩ := PS.hv.rd.shape
          have z5 : wc.cell? ⟨br, 0, none⟩ = some (.pointer (some ⟨pr, 0, none⟩)) := (blk_cell PS.rb 0).trans rfl
          have z9 : wc.cell? ⟨bh, 0, none⟩ = some (.slice Ah Hl.length ch) := (blk_cell PS.hb 0).trans rfl
          have hle := QP.le
          have hle1 := QP.le1
          have htl := QP.tl
          have hn := QP.hn
          have hk1 := QP.k2
          have e1 : decide ((T.length : Int) < (Hl.length : Int)) = false := by simp; omega
          have e2 : decide (T.length < Hl.length) = false := by simp; omega
          have e3 : IntKind.u64.wrap (Hl.length : Int) = (Hl.length : Int) := IntWalk.u64_in _ (by omega)
          have e4 : ((Hl.length : Int) != (Hl.length : Int)) = false := by simp
          have e5 : decide ((Hl.length : Int) < (n : Int)) = false := by simp; omega
          have e6 : decide (Hl.length < n) = false := by simp; omega
          have e7 : IntKind.u64.wrap ((n : Int) + 1) = (n : Int) + 1 := IntWalk.u64_in _ (by omega)
          have e8 : decide ((n : Int) + 1 < (Hl.length : Int)) = false := by simp; omega
          have PS := Lib.hid PS
          have QP := Lib.hid QP
          clear hle hle1 htl hn hk1
          go_wp2_with fail
          go_quiet ((first | (go_at_call 28; exact Calls.quiet_of_same (heard_q PS.out.r _)) | (go_at_call 27; exact Calls.quiet_of_same (told_q PS.out.s _))))
          have PS9 := Lib.hid (PS.out.no ((Kp.refl No wc).drewN nq))
          obtain ⟨w9, hw9⟩ : ∃ w9, w9 = wc.drewN nq := ⟨_, rfl⟩
          rw [← hw9] at PS9
          rw [← hw9]
          have z99 : w9.cell? ⟨bh, 0, none⟩ = some (.slice Ah Hl.length ch) := (blk_cell PS9.out.hb 0).trans rfl
          have HLE := Lib.hid QP.out.le
          have HT1 : Hid (T.length ≤ 1000) := Lib.hid (by have := QP.out.tl; have := QP.out.k2; omega)
          clear hw9 e1 e2 e3 e4 e5 e6 e7 e8 z5 z9 PS
          obtain ⟨wo, rfl⟩ : ∃ wo : World, wo = wr := ⟨_, rfl⟩
          go_wp2_with fail
          go_loopg [172] (Hl.length + 1) (fun gj i wx => ∃ j : Nat, gj = Hl.length + 1 - j ∧ i = .int .i64 j ∧ j ≤ Hl.length ∧ Kp No w9 wx)
          case atStart => exact ⟨0, rfl, rfl, by omega, Kp.refl _ _⟩
          case round =>
            obtain ⟨j, hgj, rfl, hj, kj⟩ := hrel
            have KJ := Lib.hid kj
            have z10 : wr.cell? ⟨bh, 0, none⟩ = some (.slice Ah Hl.length ch) := (blk_cell (kj.blk PS9.out.hb (no_no _)) 0).trans rfl
            clear kj
            by_cases hjl : j < Hl.length
            · have hjI : (j : Int) < (Hl.length : Int) := by omega
              have hjT : (j : Int) < (T.length : Int) := by have := HLE.out; omega
              have hwj : IntKind.i64.wrap ((j : Int) + 1) = (j : Int) + 1 := IntWalk.i64_in _ (by have := HLE.out; have := HT1.out; omega)
              obtain ⟨e, he⟩ : ∃ e, Hl[j]? = some e := ⟨_, List.getElem?_eq_getElem hjl⟩
              have heT : T[j]? = some e := by
                have h := congrArg (fun q => q[j]?) QP.out.hT
                simp only [List.getElem?_take, if_pos hjl] at h
                rw [← h]; exact he
              have hv9 := PS9.out.hv.kpNo KJ.out
              have tv9 := PS9.out.tv.kpNo KJ.out
              rcases hv9.b with ⟨_, e'⟩ | ⟨gh, caph, e', _⟩
              · rw [e'] at hjl; simp at hjl
              rcases tv9.b with ⟨_, e''⟩ | ⟨gt, capt, e'', _⟩
              · rw [e''] at heT; simp at heT
              simp only [Value.slice.injEq] at e' e''
              obtain ⟨rfl, _, rfl⟩ := e'
              obtain ⟨rfl, _, rfl⟩ := e''
              have y1 := hv9.rd.strAt he
              have y2 := tv9.rd.strAt heT
              rw [Nat.zero_add] at y1 y2
              have hj0 : (0 : Int) ≤ (j : Int) := by omega
              clear hv9 tv9 he heT hjl
              go_wp2_with fail
              go_quiet (fail)
              go_wp2
              go_roundg (Hl.length + 1 - (j + 1))
              case measure => omega
              case rel => exact ⟨j + 1, rfl, by go_num, by omega, KJ.out.drewN _⟩
            · obtain rfl : j = Hl.length := by omega
              have hd0 : ¬ (Hl.length : Int) < (Hl.length : Int) := by omega
              clear hjl
              go_wp2
              go_roundg (l.length + 1 - (k + 1))
              case measure => omega
              case rel => exact ⟨k + 1, rfl, by go_num, HLT.out.1, HLT.out.2, _, _, _, _, _, _, _, _, _, _, _, PS9.out.no KJ.out, QP.out⟩
      · have h2I : (200 : Int) ≤ (k : Int) := by omega
        clear h200
        go_wp2
        go_ret
        exact ⟨rfl, HK.out.alloc _⟩
    · obtain rfl : k = l.length := by omega
      have hd0 : ¬ (l.length : Int) < (l.length : Int) := by omega
      obtain ⟨_, _, _, _, _, _, _, _, _, _, _, q, _⟩ := I
      have HK := Lib.hid q.kp
      clear q hlt
      go_wp2
      go_ret
      exact ⟨rfl, HK.out⟩
end Go.Proofs.Ytnejjjoedmefkaa
