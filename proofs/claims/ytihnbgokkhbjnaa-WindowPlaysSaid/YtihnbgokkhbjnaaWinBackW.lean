/- WindowBack: the walk. -/
import Derived.Test.YtihnbgokkhbjnaaWinH
import Derived.Test.YtihnbgokkhbjnaaWinForgetsW
namespace Go.Proofs.Ytihnbgokkhbjnaa
set_option linter.unusedVariables false
set_option linter.unusedSimpArgs false
open Go.RowKit

theorem box2 {w1 w' : World} {g : Nat} {x y : Value} {t : TypeId} (h : w1.heap[g]? = some (.cells #[x, y] t (0, 0))) (hk : Kp No w1 w') : w'.cell? ⟨g, 0, none⟩ = some x ∧ w'.cell? ⟨g, 1, none⟩ = some y :=
  ⟨(blk_cell (hk.blk h (no_no _)) 0).trans rfl, (blk_cell (hk.blk h (no_no _)) 1).trans rfl⟩

set_option maxHeartbeats 8000000 in
set_option maxRecDepth 100000 in
theorem back_any (A : Option Addr) (cap : Nat) (l : List WAct) (c a b oc : Int) (w : World) (hl : RdA AK w (.slice A l.length cap) l) (hlc : l.length ≤ cap) (hc : cap ≤ maxLen) (hg : ∀ a ∈ l, 0 ≤ a.k) :
    Calls Try.prog 8 #[.slice A l.length cap, .int .i64 c, .agg #[.int .i64 a, .int .i64 b], .int .i64 oc] w fun e w' => e = .returned (.bool true) ∧ Kp No w w' := by
  obtain ⟨acts, ha⟩ : ∃ acts, acts = l.take 200 := ⟨_, rfl⟩
  obtain ⟨N, hN⟩ : ∃ N, N = min 200 l.length := ⟨_, rfl⟩
  have hal : acts.length = N := by rw [ha, List.length_take, hN]
  have hrd : RdA AK w (.slice A N cap) acts := by rw [hN, ha]; exact hl.take 200
  have hga : ∀ a ∈ acts, 0 ≤ a.k := fun a h => hg a (List.mem_of_mem_take (ha ▸ h))
  have hNb : N ≤ 200 := by omega
  have HP : Hid ((w.alloc (.cells #[.int .i64 a, .int .i64 b] 23)).heap[w.heap.size]? = some (.cells #[.int .i64 a, .int .i64 b] 23 (0, 0))) := blk_new _ _
  have HN := Lib.hid hN; have HRD := Lib.hid hrd; have HG := Lib.hid hga; have HAL := Lib.hid hal
  clear hl hN hrd hg hga ha hal
  go_enter Try.func8, Try.ntmps8
  go_wp2_with fail
  refine (shown_any _).mono ?_
  rintro e w1 ⟨rfl, k1⟩
  have K1 := Lib.hid (((Kp.refl No w).alloc _).no k1); have HP1 := Lib.hid (k1.blk HP.out (no_no _)); clear k1
  go_wp2_with fail
  refine (new_at _).mono ?_
  rintro e w2 ⟨bt, rfl, r2⟩
  have R2 := Lib.hid r2; clear r2
  go_wp2_with fail
  refine (few_any hlc hc).mono ?_
  rintro e w3 ⟨rfl, rfl⟩
  rw [← HN.out]
  go_wp2
  go_loopw [12, 24] (fun _ i wr => ∃ k : Nat, i = .int .i64 k ∧ k ≤ N ∧ AtT w1 bt (playT (acts.take k)) wr) (fun _ i _ => N - (intOf i).toNat)
  case atStart => exact ⟨0, rfl, by omega, R2.out⟩
  case round =>
    obtain ⟨k, rfl, hk, hat⟩ := hrel
    by_cases hlt : k < N
    · obtain ⟨x, hx⟩ : ∃ x, acts[k]? = some x := ⟨_, List.getElem?_eq_getElem (by have := HAL.out; omega)⟩
      obtain ⟨g, o, rfl, c0, c1, c2, c3⟩ := AK_at (HRD.out.kpNo (K1.out.no hat.kp)) hx
      have hka : 0 ≤ x.k := HG.out x (List.mem_of_getElem? hx)
      have hltI : (k : Int) < (N : Int) := by omega
      have HT := Lib.hid hat; have HS := Lib.hid (playT_snoc acts k x hx)
      clear hat hx
      go_wp2_with fail
      refine (does_at (HT.out.kpNo ((Kp.refl _ _).alloc _)) (playT_wf _) x hka _ rfl).mono ?_
      rintro e w5 ⟨rfl, r5⟩
      have R5 := Lib.hid (HS.out ▸ r5); clear r5
      go_wp2
      go_roundw
      case rel => exact ⟨k + 1, by go_num, by omega, R5.out⟩
      case measure => simp [intOf]; omega
    · obtain rfl : k = N := by omega
      have hfull : Hid (acts.take k = acts) := List.take_of_length_le (by rw [HAL.out]; exact Nat.le_refl _)
      rw [hfull.out] at hat
      have hwf := Lib.hid (playT_wf acts)
      generalize playT acts = T at hat hwf
      have HT := Lib.hid hat.h
      clear hat
      go_wp2_with fail
      refine (taken_h HT.out hwf.out c).mono ?_
      rintro e wx ⟨v, rfl, a1⟩
      obtain ⟨B1, b1, rfl⟩ := a1.shape (List.mem_cons_self)
      have A1 := Lib.hid a1; clear a1
      go_wp2_with fail
      refine (taken_h A1.out hwf.out oc).mono ?_
      rintro e wy ⟨v, rfl, a2⟩
      obtain ⟨B2, b2, rfl⟩ := a2.shape (List.mem_cons_self)
      have A2 := Lib.hid a2; clear a2
      have hp1 := (blk_cell (A2.out.t.kp.blk HP1.out (no_no _)) 0).trans rfl
      have hp2 := (blk_cell (A2.out.t.kp.blk HP1.out (no_no _)) 1).trans rfl
      simp only [List.getElem?_toArray, List.getElem?_cons_zero, List.getElem?_cons_succ] at hp1 hp2
      by_cases hr : takeE (T c) a b = 0
      · obtain ⟨T1, hT1⟩ : ∃ T1, T1 = setT T c (insL (T c) (place (T c) a) (a, b)) := ⟨_, rfl⟩
        have e0 : takeT T c a b = T1 := by simp [takeT, hr, hT1]
        have e1 : T1 c = insL (T c) (place (T c) a) (a, b) := by simp [hT1, setT]
        have hpl := place_le (T c) a
        have q1 : (T1 c).length = (T c).length + 1 := by rw [e1]; simp [insL]; omega
        have q2 : false = isF (T1 c) a := by rw [e1]; exact (ins_is (hwf.out c) hr a (Int.le_refl _) (take_ok (hwf.out c) hr).1.2.1).symm
        have q3 : false = isF (T1 c) (b - 1) := by rw [e1]; have := (take_ok (hwf.out c) hr).1.2.1; exact (ins_is (hwf.out c) hr (b - 1) (by omega) (by omega)).symm
        have q4 : (3 : Int) = takeE (T1 c) a b := by rw [e1]; exact (ins_there (hwf.out c) hr).symm
        have q4' : takeT T1 c a b = T1 := by unfold takeT; rw [← q4]; rfl
        have q5 : (0 : Int) = dropE (T1 c) (a, b) := by rw [e1]; simp [dropE, insL]
        have q6 : dropT T1 c (a, b) = T := by rw [hT1]; exact back_drop (hwf.out c) hr
        have q7 : (2 : Int) = dropE (T c) (a, b) := by simp [dropE, ins_not (hwf.out c) hr]
        have q8 : oc ≠ c → T1 oc = T oc := fun h => by rw [hT1]; simp [setT, h]
        have w1f : WFT T1 := by rw [← e0]; exact hwf.out.take c a b
        have E0 := Lib.hid e0; have Q1 := Lib.hid q1; have Q2 := Lib.hid q2; have Q3 := Lib.hid q3; have Q4 := Lib.hid q4; have Q4' := Lib.hid q4'; have Q5 := Lib.hid q5; have Q6 := Lib.hid q6; have Q7 := Lib.hid q7; have Q8 := Lib.hid q8; have W1 := Lib.hid w1f
        have HR0 := Lib.hid hr.symm
        have hab := (take_ok (hwf.out c) hr).1
        obtain ⟨ha0, ha1, ha2⟩ := hab
        have hl1 := (hwf.out c).len
        have hl2 := (w1f c).len
        have hl3 := (hwf.out oc).len
        have hlI : (((T1 c).length : Int) != ((T c).length : Int) + 1) = false := by simp [q1]
        clear hT1 e0 e1 q1 q2 q3 q4 q4' q5 q6 q7 q8 w1f hr
        go_wp2_with fail
        refine (take_h A2.out hwf.out c a b 0 HR0.out).mono ?_
        rintro e wz ⟨rfl, a3⟩
        rw [E0.out] at a3
        have A3 := Lib.hid a3; clear a3
        go_wp2_with fail
        refine (taken_h A3.out W1.out c).mono ?_
        rintro e wz2 ⟨v, rfl, a4⟩
        obtain ⟨B3, b3, rfl⟩ := a4.shape (List.mem_cons_self)
        have A4 := Lib.hid a4; clear a4
        by_cases hco : c = oc
        · subst hco
          have A5 := A4
          obtain ⟨hp1, hp2⟩ := box2 HP1.out A5.out.t.kp
          go_wp2_with fail
          refine (is_h A5.out W1.out c a _ Q2.out).mono ?_
          rintro e wz4 ⟨rfl, a6⟩
          obtain ⟨hp3, hp4⟩ := box2 HP1.out a6.t.kp
          have A6 := Lib.hid a6; clear a6
          go_wp2_with fail
          refine (is_h A6.out W1.out c (b - 1) _ Q3.out).mono ?_
          rintro e wz5 ⟨rfl, a7⟩
          obtain ⟨hp5, hp6⟩ := box2 HP1.out a7.t.kp
          have A7 := Lib.hid a7; clear a7
          go_wp2_with fail
          refine (take_h A7.out W1.out c a b _ Q4.out).mono ?_
          rintro e wz6 ⟨rfl, a8⟩
          rw [Q4'.out] at a8
          obtain ⟨hp7, hp8⟩ := box2 HP1.out a8.t.kp
          have A8 := Lib.hid a8; clear a8
          go_wp2_with fail
          refine (drop_h A8.out W1.out c (a, b) _ Q5.out).mono ?_
          rintro e wz7 ⟨rfl, a9⟩
          rw [Q6.out] at a9
          have A9 := Lib.hid a9; clear a9
          go_wp2_with fail
          refine (taken_h A9.out hwf.out c).mono ?_
          rintro e wz8 ⟨v, rfl, a10⟩
          obtain ⟨B4, b4, rfl⟩ := a10.shape (List.mem_cons_self)
          have A10 := Lib.hid a10; clear a10
          go_wp2_with fail
          refine (same_h A10.out (l := T c) (m := T c) (by simp) (by simp) (by omega) (by omega) true (by simp)).mono ?_
          rintro e wz9 ⟨rfl, a11⟩
          obtain ⟨hp9, hp10⟩ := box2 HP1.out a11.t.kp
          have A11 := Lib.hid a11; clear a11
          go_wp2_with fail
          refine (drop_h A11.out hwf.out c (a, b) _ Q7.out).mono ?_
          rintro e wz10 ⟨rfl, a12⟩
          have A12 := Lib.hid (K1.out.no a12.t.kp); clear a12
          go_wp2
          go_ret
          exact ⟨rfl, A12.out⟩
        · have hcn : (c != oc) = true := by simpa using hco
          have hq8 := Q8.out (fun e => hco e.symm)
          go_wp2_with fail
          refine (taken_h A4.out W1.out oc).mono ?_
          rintro e wz3 ⟨v, rfl, a5⟩
          rw [hq8] at a5
          obtain ⟨B5, b5, rfl⟩ := a5.shape (List.mem_cons_self)
          have A4' := Lib.hid a5; clear a5
          go_wp2_with fail
          refine (same_h A4'.out (l := T oc) (m := T oc) (by simp) (by simp) (by omega) (by omega) true (by simp)).mono ?_
          rintro e wz3' ⟨rfl, a5⟩
          have A5 := Lib.hid a5; clear a5 hq8
          obtain ⟨hp1, hp2⟩ := box2 HP1.out A5.out.t.kp
          go_wp2_with fail
          refine (is_h A5.out W1.out c a _ Q2.out).mono ?_
          rintro e wz4 ⟨rfl, a6⟩
          obtain ⟨hp3, hp4⟩ := box2 HP1.out a6.t.kp
          have A6 := Lib.hid a6; clear a6
          go_wp2_with fail
          refine (is_h A6.out W1.out c (b - 1) _ Q3.out).mono ?_
          rintro e wz5 ⟨rfl, a7⟩
          obtain ⟨hp5, hp6⟩ := box2 HP1.out a7.t.kp
          have A7 := Lib.hid a7; clear a7
          go_wp2_with fail
          refine (take_h A7.out W1.out c a b _ Q4.out).mono ?_
          rintro e wz6 ⟨rfl, a8⟩
          rw [Q4'.out] at a8
          obtain ⟨hp7, hp8⟩ := box2 HP1.out a8.t.kp
          have A8 := Lib.hid a8; clear a8
          go_wp2_with fail
          refine (drop_h A8.out W1.out c (a, b) _ Q5.out).mono ?_
          rintro e wz7 ⟨rfl, a9⟩
          rw [Q6.out] at a9
          have A9 := Lib.hid a9; clear a9
          go_wp2_with fail
          refine (taken_h A9.out hwf.out c).mono ?_
          rintro e wz8 ⟨v, rfl, a10⟩
          obtain ⟨B4, b4, rfl⟩ := a10.shape (List.mem_cons_self)
          have A10 := Lib.hid a10; clear a10
          go_wp2_with fail
          refine (same_h A10.out (l := T c) (m := T c) (by simp) (by simp) (by omega) (by omega) true (by simp)).mono ?_
          rintro e wz9 ⟨rfl, a11⟩
          obtain ⟨hp9, hp10⟩ := box2 HP1.out a11.t.kp
          have A11 := Lib.hid a11; clear a11
          go_wp2_with fail
          refine (drop_h A11.out hwf.out c (a, b) _ Q7.out).mono ?_
          rintro e wz10 ⟨rfl, a12⟩
          have A12 := Lib.hid (K1.out.no a12.t.kp); clear a12
          go_wp2
          go_ret
          exact ⟨rfl, A12.out⟩
      · have hsame : Hid (takeT T c a b = T) := by simp [Hid, takeT, hr]
        have hl1 := (hwf.out c).len
        obtain ⟨r, hrr⟩ : ∃ r, r = takeE (T c) a b := ⟨_, rfl⟩
        rw [← hrr] at hr
        have hrb : (r != 0) = true := by simpa using hr
        have HR := Lib.hid hrr
        clear hrr hr
        go_wp2_with fail
        refine (take_h A2.out hwf.out c a b r HR.out).mono ?_
        rintro e wz ⟨rfl, a3⟩
        rw [hsame.out] at a3
        have A3 := Lib.hid a3; clear a3
        go_wp2_with fail
        refine (taken_h A3.out hwf.out c).mono ?_
        rintro e wz2 ⟨v, rfl, a4⟩
        obtain ⟨B3, b3, rfl⟩ := a4.shape (List.mem_cons_self)
        have A4 := Lib.hid a4; clear a4
        go_wp2_with fail
        refine (same_h A4.out (l := T c) (m := T c) (by simp) (by simp) (by omega) (by omega) true (by simp)).mono ?_
        rintro e wz3 ⟨rfl, a5⟩
        have A5 := Lib.hid (K1.out.no a5.t.kp); clear a5
        go_wp2
        go_ret
        exact ⟨rfl, A5.out⟩
end Go.Proofs.Ytihnbgokkhbjnaa
