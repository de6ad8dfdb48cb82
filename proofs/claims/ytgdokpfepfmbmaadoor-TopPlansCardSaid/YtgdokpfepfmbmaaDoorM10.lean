/- sipp.Plan; carfaxref07: Same, waits; the document's table as it reads; carfaxref07.Reach, plain: the levels. No function of the program; carfaxref07.Reach: the levels in memory; carfaxref07.Reach, where something may be asked; carfaxref07.Reach, where nothing may be asked; carfaxref07.Soon, plain: the first moment, sought from the last level down. No function of the program; carfaxref07.Soon, where something may be asked; carfaxref07.Soon: what it answers; carfaxlaw07: shown, small; Both tables of a law (the program's, the document's), apart from each other; taking in both; carfaxlaw07.tables; Arguments that are slices of rows: what they read as. No function of the program; Arguments: floors. No condition. -/
import Derived.Test.YtgdokpfepfmbmaaDoorM9
import Derived.Test.YtgdokpfepfmbmaaDoorM5
import Derived.Test.YtgdokpfepfmbmaaDoorM7
import Derived.Test.YtgdokpfepfmbmaaDoorM8
import Derived.Test.YtgdokpfepfmbmaaDoorM1
import Derived.Deep.Slices
import Derived.ProofKit
import Derived.Test.YtgdokpfepfmbmaaDoorM3
import Derived.OpenShut
import Derived.Lib.SmallJoins

namespace Go.Proofs.YtgdokpfepfmbmaaDoor
set_option linter.unusedVariables false
set_option linter.unusedSimpArgs false
open Go.RowKit

def PlR (P : List (Int × Int) × Int) (w : World) (e : Ending) (w' : World) : Prop := ∃ A q, e = .returned (.tuple #[.slice A P.1.length q, .int .i64 P.2]) ∧ NewS TK 58 w w' (.slice A P.1.length q) P.1
theorem plR_nil {P : List (Int × Int) × Int} {er : Int} {w w' : World} (h : P = ([], er)) (hk : Kp No w w') : PlR P w (.returned (.tuple #[.slice none 0 0, .int .i64 er])) w' := by
  subst h; exact ⟨none, 0, rfl, ⟨Own.nil _ _ _, by simp [Value.ownBlock], hk⟩⟩
set_option maxHeartbeats 4000000 in
set_option maxRecDepth 100000 in
theorem spPlan_any (f : Flr) (hsz : f.s.size ≤ 60) {T : Int → List (Int × Int)} (hT : WFT T) {W : Nat} (hW : W ≤ 250) (hWc : ∀ c, c < f.s.size → (freeL (T (c : Int))).length ≤ W) (fr s0 tg ah : Int) (hah : ah ≤ 60 ∨ 1024 < ah) (tb : Nat) {FT : Nat → Prop} {w : World} (hR : RepT w tb T FT) :
    Calls Tryd.prog 20 #[f.val, .pointer (some ⟨tb, 0, none⟩), .int .i64 fr, .int .i64 s0, .int .i64 tg, .int .i64 ah] w (PlR (planR f T fr s0 tg ah) w) := by
  have HBX := Lib.hid (BxW.new f w)
  obtain ⟨P, hP⟩ : ∃ P, P = planR f T fr s0 tg ah := ⟨_, rfl⟩
  rw [← hP]
  cases hok : spOk f fr s0 with
  | false =>
    have HO := Lib.hid (spof_no f (by omega) tb fr s0 hok)
    have HE := Lib.hid (show P = ([], 1) by rw [hP]; unfold planR; rw [hok]; simp)
    obtain ⟨X, Y, s⟩ := f
    unfold Flr.val at HO ⊢
    clear hP hok hsz hT hW hWc hah hR
    go_enter Tryd.func20, Tryd.ntmps20
    go_wp2_with fail
    refine (HO.out _).mono ?_
    rintro e w1 ⟨rfl, k1⟩
    have K1 := Lib.hid (HBX.out.kp.no k1)
    clear k1
    go_wp2_with fail
    go_ret2
    exact plR_nil HE.out K1.out
  | true =>
    have hok2 : ptOk f fr = true := by unfold spOk at hok; simp only [Bool.and_eq_true] at hok; exact hok.1.1
    obtain ⟨k, rfl, hk, hr⟩ := ptOk_nat hok2
    have HO := Lib.hid (spof_ok f (by omega) T hT k s0 tb (w := w.alloc (.cells #[.int .i64 f.W, .int .i64 f.H, .string f.s] 23)) (hR.kpNo ((Kp.refl _ _).alloc _)) hok)
    obtain ⟨fa, hfa⟩ : ∃ b, (decide (0 ≤ ah) && decide (ah ≤ 1024)) = b := ⟨_, rfl⟩
    have FA := Lib.hid (fun w => spfar_any ah w fa hfa)
    obtain ⟨n, hn⟩ : ∃ n, n = f.s.size := ⟨_, rfl⟩
    have hnI : ((f.s.size : Nat) : Int) = (n : Int) := by omega
    obtain ⟨F, hF⟩ : ∃ F, F = f := ⟨_, rfl⟩
    have HF := Lib.hid hF
    have hbtj := fun j (hj : j < f.s.size) => bt_at f.s j hj
    have HBT := Lib.hid hbtj
    rw [← hF] at hP hWc hk hn
    have HP := Lib.hid hP; have HNF := Lib.hid hn
    have HWC := Lib.hid hWc; have HFA := Lib.hid hfa; have HAH := Lib.hid hah
    have HOK := Lib.hid (show spOk F (k : Int) s0 = true by rw [hF]; exact hok)
    have HKN := Lib.hid hk
    have hn60 : n ≤ 60 := by rw [hn, hF]; exact hsz
    obtain ⟨X, Y, s⟩ := f
    simp only at hnI
    unfold Flr.val at HO ⊢
    clear hok hok2 hk hr hP hsz hWc hfa hF hR hah hn hbtj
    go_enter Tryd.func20, Tryd.ntmps20
    go_wp2_with fail
    refine HO.out.mono ?_
    rintro e w1 ⟨Z, zf, zT, zfr, zs, zb, rfl, cs, sv, k1, gp, gm, gb⟩
    have zf2 : Z.f = F := by rw [zf, HF.out]
    have HZN := Lib.hid (show Z.n = n by rw [cs.hn, zf2, HNF.out])
    have B1 := Lib.hid (HBX.out.no k1)
    have hb2 : w1.cell? ⟨w.heap.size, 2, none⟩ = some (.string s) := B1.out.c2
    have GE := Lib.hid (show w.heap.size ≤ Z.p ∧ w.heap.size ≤ Z.ms by
      have : w.heap.size ≤ (w.alloc (.cells #[.int .i64 X, .int .i64 Y, .string s] 23)).heap.size := by simp
      exact ⟨Nat.le_trans this gp, Nat.le_trans this gm⟩)
    have HST := Lib.hid (show Z.T = T ∧ Z.fr = k ∧ Z.s0 = s0 ∧ Z.f = F from ⟨zT, zfr, zs, zf2⟩)
    have CS := Lib.hid cs; have SV := Lib.hid sv
    clear zf zT zfr zs zb cs sv k1 gp gm gb zf2
    cases fa with
    | false =>
      have HE := Lib.hid (show P = ([], 1) by rw [HP.out]; unfold planR; rw [if_neg]; rintro ⟨_, h, _⟩; rw [HFA.out] at h; cases h)
      go_wp2_with fail
      refine (FA.out _).mono ?_
      rintro e w2 ⟨rfl, hw2⟩
      obtain rfl : w2 = w1 := hw2
      go_wp2_with fail
      go_ret2
      exact plR_nil HE.out B1.out.kp
    | true =>
      by_cases h0 : tg < 0
      · have d0 : decide (tg < 0) = true := by simpa using h0
        have HE := Lib.hid (show P = ([], 1) by rw [HP.out]; unfold planR; rw [if_neg]; rintro ⟨_, _, h⟩; unfold opQ at h; simp at h; omega)
        clear h0
        go_wp2_with fail
        refine (FA.out _).mono ?_
        rintro e w2 ⟨rfl, hw2⟩
        obtain rfl : w2 = w1 := hw2
        go_wp2_with fail
        go_ret2
        exact plR_nil HE.out B1.out.kp
      by_cases h1 : (n : Int) ≤ tg
      · have d0 : decide (tg < 0) = false := by simpa using h0
        have d1 : decide ((n : Int) ≤ tg) = true := by simpa using h1
        have HE := Lib.hid (show P = ([], 1) by rw [HP.out]; unfold planR; rw [if_neg]; rintro ⟨_, _, h⟩; unfold opQ at h; simp only [Bool.and_eq_true, decide_eq_true_eq] at h; have := HNF.out; omega)
        clear h0 h1
        go_wp2_with fail
        refine (FA.out _).mono ?_
        rintro e w2 ⟨rfl, hw2⟩
        obtain rfl : w2 = w1 := hw2
        go_wp2_with fail
        go_ret2
        exact plR_nil HE.out B1.out.kp
      obtain ⟨c, rfl⟩ : ∃ c : Nat, tg = c := ⟨tg.toNat, by omega⟩
      have hcn : c < n := by omega
      have hcI : (c : Int) < (n : Int) := by omega
      have d0 : decide ((c : Int) < 0) = false := by simp
      have d1 : decide ((n : Int) ≤ (c : Int)) = false := by simpa using h1
      have d1n : decide (n ≤ c) = false := by simp; omega
      have hjs : c < s.size := by omega
      have hbt := HBT.out c hjs
      clear h0 h1
      by_cases h35 : bt s c = 35
      · have hbs : ((s[c]'hjs).toNat : Int) = 35 := by rw [hbt, h35]; rfl
        have HE := Lib.hid (show P = ([], 1) by rw [HP.out]; unfold planR; rw [if_neg]; rintro ⟨_, _, h⟩; unfold opQ at h; rw [HF.out] at h; simp [h35] at h)
        clear h35 hbt
        go_wp2_with fail
        refine (FA.out _).mono ?_
        rintro e w2 ⟨rfl, hw2⟩
        obtain rfl : w2 = w1 := hw2
        go_wp2_with fail
        go_ret2
        exact plR_nil HE.out B1.out.kp
      have hbs : ((s[c]'hjs).toNat : Int) = (bt s c : Int) := by rw [hbt]
      have h35b : ((bt s c : Int) == 35) = false := by simp; omega
      have HOP := Lib.hid (show opQ F (c : Int) = true by unfold opQ; rw [HF.out]; simp; exact ⟨hjs, h35⟩)
      clear h35 hbt
      by_cases hck : c = k
      · subst hck
        have HE := Lib.hid (show P = ([], 0) by rw [HP.out]; unfold planR; rw [if_pos ⟨HOK.out, HFA.out, HOP.out⟩, if_pos rfl])
        go_wp2_with fail
        refine (FA.out _).mono ?_
        rintro e w2 ⟨rfl, hw2⟩
        obtain rfl : w2 = w1 := hw2
        go_wp2_with fail
        go_ret2
        exact plR_nil HE.out B1.out.kp
      have hckI : ((c : Int) == (k : Int)) = false := by simp; omega
      obtain ⟨A, rfl, hA⟩ : ∃ A : Nat, ah = A ∧ A ≤ 60 := by
        have := HFA.out
        simp only [Bool.and_eq_true, decide_eq_true_eq] at this
        have h2 := HAH.out
        exact ⟨ah.toNat, by omega, by omega⟩
      have HAA := Lib.hid hA
      have RU := Lib.hid (sprun_any CS.out SV.out A W hA (by rw [HZN.out]; exact hn60) hW (fun x hx => by rw [HST.out.1]; exact HWC.out x (by rw [← HNF.out, ← HZN.out]; exact hx)))
      obtain ⟨vS, hvS⟩ : ∃ v, v = sn T (stepsP F k []) k s0 A c := ⟨_, rfl⟩
      have HVS := Lib.hid hvS
      have HPE := Lib.hid (show P = if vS < 0 then ([], 2) else (plF F T k s0 (vS - s0).toNat c, 0) by
        rw [HP.out]; unfold planR
        rw [if_pos ⟨HOK.out, HFA.out, HOP.out⟩, if_neg (by omega)]
        rw [show ((k : Int)).toNat = k by omega, show ((A : Int)).toNat = A by omega, show ((c : Int)).toNat = c by omega, ← hvS])
      have ISN := Lib.hid (show IsSn T (stepsP F k []) k s0 A c vS by rw [hvS]; exact sn_is _ _ _ _ _ _)
      clear hck hA hvS
      go_wp2_with fail
      refine (FA.out _).mono ?_
      rintro e w2 ⟨rfl, hw2⟩
      obtain rfl : w2 = w1 := hw2
      go_wp2_with fail
      refine RU.out.mono ?_
      rintro e w3 ⟨rfl, S, all, U, FF, sp, cl, us, cs, sv, k3⟩
      have K3 := Lib.hid (show Kp No w w3 from B1.out.kp.trans' k3 (fun j hj e => by have := GE.out; rcases e with e | e <;> omega))
      obtain ⟨e1, e2, e3, e4⟩ := HST.out
      have e5 : Z.st = stepsP F k [] := by funext u; unfold SeP.st; rw [e4, e2]
      have MN := Lib.hid (show mnA (U (c : Int)) = vS by
        rw [us c, HVS.out]
        have h1 := mnA_sn (T := Z.T) (st := Z.st) (fr := Z.fr) (n := Z.n) (s0 := Z.s0) (L := Z.s0 + (A : Int)) (A := A) CS.out.s0.1 rfl sp cl CS.out.wf c
        rw [h1, e5, e1, e2, e3])
      have SC := Lib.hid (spsoon_any sv (c : Int) _ MN.out)
      have CS3 := Lib.hid cs; have SV3 := Lib.hid sv
      have hs0 := cs.s0
      rw [e3] at hs0
      have CM := Lib.hid (fun (m a : Nat) (hm : m ≤ A) => show cmU Z U (s0 + (m : Int)) a = cmP T (stepsP F k []) (fun c => nearP F c) k s0 (okF F k) m a by
        have h1 := cmU_eq sp cl CS.out.wf us m a (by omega)
        have e6 : Z.ok = okF F k := by funext u; unfold SeP.ok okF; rw [e4, e2]
        rw [e5, e1, e2, e3, e4, e6] at h1
        exact h1)
      have FL := Lib.hid (show Flp T (stepsP F k []) (fun c => nearP F c) k s0 (okF F k) by
        have h1 := flp_of CS.out
        have e6 : Z.ok = okF F k := by funext u; unfold SeP.ok okF; rw [e4, e2]
        rw [e5, e1, e2, e3, e4, e6] at h1
        exact h1)
      have RL := Lib.hid (fun (m a : Nat) (h : Rch T (stepsP F k []) k s0 m a) => show a < Z.n by
        have h1 := rch_lt CS.out m a
        rw [e5, e1, e2, e3] at h1
        rw [CS.out.hn]; exact h1 h)
      have T0 := Lib.hid (show to0 Z.T Z.fr Z.s0 = to0 T k s0 by rw [e1, e2, e3])
      have TS := Lib.hid (show s0 + 1 ≤ to0 T k s0 by have := (to0_spec (fr := Z.fr) (s0 := Z.s0) CS.out.wf).1; rw [e1, e2, e3] at this; exact this)
      have HFE := Lib.hid (show Z.fr = k ∧ Z.s0 = s0 from ⟨e2, e3⟩)
      clear sp cl us cs sv k3 e1 e2 e3 e4 e5
      go_wp2_with fail
      refine SC.out.mono ?_
      rintro e w4 ⟨rfl, k4⟩
      have K4 := Lib.hid (K3.out.no k4)
      have CS4 := Lib.hid (CS3.out.no k4); have SV4 := Lib.hid (SV3.out.no k4)
      clear k4
      by_cases hv : vS < 0
      · have dv : decide (vS < 0) = true := by simpa using hv
        have HE := Lib.hid (show P = ([], 2) by rw [HPE.out, if_pos hv])
        clear hv
        go_wp2_with fail
        go_ret2
        exact plR_nil HE.out K4.out
      have dv : decide (vS < 0) = false := by simpa using hv
      obtain ⟨kk, hkA, rfl, hrk⟩ : ∃ kk : Nat, kk ≤ A ∧ vS = s0 + kk ∧ Rch T (stepsP F k []) k s0 kk c := by
        rcases ISN.out with ⟨e, _⟩ | ⟨kk, h1, h2, h3, _⟩
        · omega
        · exact ⟨kk, h1, h2, h3⟩
      have HE := Lib.hid (show P = (plF F T k s0 kk c, 0) by
        rw [HPE.out, if_neg hv]
        rw [show (s0 + (kk : Int) - s0).toNat = kk by omega])
      obtain ⟨t0, ht0⟩ : ∃ t, t = to0 T k s0 := ⟨_, rfl⟩
      have FI := Lib.hid (show Calls Tryd.prog 46 #[.pointer (some ⟨Z.p, 0, none⟩)] w4 fun e w' => e = .returned (.agg #[.int .i64 (k : Int), .int .i64 s0, .int .i64 t0]) ∧ Kp No w4 w' by
        have h1 := spfirst_any CS4.out SV4.out
        unfold fstS Sty.val at h1
        simp only at h1
        rw [T0.out, HFE.out.1, HFE.out.2] at h1
        rw [ht0]; exact h1)
      have HT0 := Lib.hid ht0
      have HKK := Lib.hid (show kk ≤ A ∧ A ≤ 60 from ⟨hkA, HAA.out⟩)
      have HRK := Lib.hid hrk
      have HS0 := Lib.hid hs0
      have TSO := TS.out
      rw [← ht0] at TSO
      have TSO := Lib.hid TSO
      clear hv hkA hrk ht0 hs0
      go_wp2_with fail
      refine FI.out.mono ?_
      rintro e w5 ⟨rfl, k5⟩
      have K45 := Lib.hid k5
      obtain ⟨bS, hbS⟩ : ∃ b, b = w5.heap.size := ⟨_, rfl⟩
      obtain ⟨w6, hw6⟩ : ∃ y : World, y = w5.alloc (.cells #[.int .i64 (k : Int), .int .i64 s0, .int .i64 t0] 100) := ⟨_, rfl⟩
      have BS := Lib.hid (show w6.heap[bS]? = some (.cells #[.int .i64 (k : Int), .int .i64 s0, .int .i64 t0] 100 (0, 0)) by rw [hw6, hbS]; exact blk_new w5 _)
      have K46 := Lib.hid (show Kp No w4 w6 by rw [hw6]; exact k5.alloc _)
      have HW6 := Lib.hid hw6; have HBS := Lib.hid hbS
      clear k5 hbS hw6
      go_upto_region 12 with fail
      rw [← HW6.out, ← HBS.out]
      go_wp2_with fail
      go_loopg [16, 18, 19] (kk + 1) (fun g_ nv ov av wx => ∃ (m a : Nat) (L : List (Int × Int)), g_ = m + 1 ∧ nv = .int .i64 (s0 + (m : Int)) ∧ av = .int .i64 (a : Int) ∧ m ≤ kk ∧ Rch T (stepsP F k []) k s0 m a ∧ NewS TK 58 w6 wx ov L ∧ plF F T k s0 kk c = plF F T k s0 m a ++ L.reverse ∧ L.length + m ≤ kk)
      case atStart => exact ⟨kk, c, [], rfl, rfl, rfl, Nat.le_refl _, HRK.out, NewS.nil TK 58 w6, by simp, by simp⟩
      case round =>
        obtain ⟨m0, a, L, hg, rfl, rfl, hm0, rc, ns, ple, hlb⟩ := hrel
        obtain ⟨nw, hnw⟩ : ∃ z : Int, z = s0 + (m0 : Int) := ⟨_, rfl⟩
        rw [← hnw]
        have HNW0 := Lib.hid hnw
        clear hnw
        have RC0 := Lib.hid rc; have NS := Lib.hid ns; have PLE0 := Lib.hid ple; have HLB0 := Lib.hid hlb
        have b2 : wr.cell? ⟨bS, 2, none⟩ = some (.int .i64 t0) := blk_cell (ns.kp.blk BS.out (no_no _)) 2
        clear rc ns ple hlb
        by_cases hst : a = k ∧ nw < t0
        · obtain ⟨rfl, hlt⟩ := hst
          have e1 : ((a : Int) != (a : Int)) = false := by simp
          have e2 : decide (nw ≥ t0) = false := by simp; omega
          have HEQ := Lib.hid (show plF F T a s0 kk c = L.reverse by rw [PLE0.out]; unfold plF; rw [plP_stop (by rw [← HT0.out, ← HNW0.out]; exact hlt)]; rfl)
          obtain ⟨lo, hlo⟩ : ∃ l, l = L.length := ⟨_, rfl⟩
          have RV := Lib.hid (revT_any NS.out.own (by have := HLB0.out; have := HKK.out; omega))
          obtain ⟨Ao, qo, hov⟩ := NS.out.own.rd.shape
          rw [← hlo] at hov
          subst hov
          have HLO := Lib.hid hlo
          clear hlt hlo
          go_wp2_with fail
          refine RV.out.mono ?_
          rintro e w7 ⟨rfl, o7, k7⟩
          have O7 := Lib.hid o7; have K7 := Lib.hid k7
          clear o7 k7
          go_wp2_with fail
          go_ret2
          refine ⟨Ao, qo, by rw [HE.out]; simp only; rw [HEQ.out, List.length_reverse, ← HLO.out]; rfl, ?_⟩
          rw [HE.out]
          simp only
          rw [HEQ.out, List.length_reverse, ← HLO.out]
          have h46 := K46.out.size
          have h4 := K4.out.size
          exact ⟨O7.out, fun g hg => by have := NS.out.ge g hg; omega, ((K4.out.no K46.out).no NS.out.kp).trans' K7.out (fun j hj e => by have := NS.out.ge j e; omega)⟩
        · obtain ⟨m, rfl⟩ : ∃ m, m0 = m + 1 := by
            rcases m0 with _ | m
            · exfalso
              have h1 : a = k := RC0.out
              exact hst ⟨h1, by have := TSO.out; have := HNW0.out; simp at this; omega⟩
            · exact ⟨m, rfl⟩
          have HNW := Lib.hid HNW0.out
          have RC := Lib.hid RC0.out; have PLE := Lib.hid PLE0.out; have HLB := Lib.hid HLB0.out
          have NST := Lib.hid (show ¬ (a = k ∧ s0 + ((m + 1 : Nat) : Int) < to0 T k s0) by rw [← HT0.out, ← HNW.out]; exact hst)
          have hcs : ((a : Int) != (k : Int)) = true ∨ (((a : Int) != (k : Int)) = false ∧ decide (nw ≥ t0) = true) := by
            by_cases e : a = k
            · right
              refine ⟨by simp [e], ?_⟩
              simp
              have := fun h => hst ⟨e, h⟩
              omega
            · left; simp; omega
          clear hst
          rcases hcs with e1 | ⟨e1, e2⟩
          · skip
            have hwm : IntKind.i64.wrap (nw - 1) = nw - 1 := IntWalk.i64_in _ (by have := HNW.out; have := HS0.out; have := HKK.out; omega)
            obtain ⟨r, hr⟩ : ∃ r, cmP T (stepsP F k []) (fun c => nearP F c) k s0 (okF F k) m a = r := ⟨_, rfl⟩
            have CA := Lib.hid (spcame_any (CS4.out.no (K46.out.no NS.out.kp)) (SV4.out.no (K46.out.no NS.out.kp)) a (RL.out _ a RC.out) nw (by have := HNW.out; have := HS0.out; have := HKK.out; omega) r (by rw [show nw - 1 = s0 + (m : Int) by have := HNW.out; omega, CM.out m a (by have := HKK.out; omega)]; exact hr))
            have HRR := Lib.hid hr
            obtain ⟨lo, hlo⟩ : ∃ l, l = L.length := ⟨_, rfl⟩
            obtain ⟨Ao, qo, hov⟩ := NS.out.own.rd.shape
            rw [← hlo] at hov
            subst hov
            have HLO := Lib.hid hlo
            have hlob : lo ≤ 60 := by have := HLB.out; rw [← hlo] at this; have := HKK.out; omega
            clear hr hlo
            go_wp2_with fail
            refine CA.out.mono ?_
            rintro e w7 ⟨rfl, k7⟩
            have NS7 := Lib.hid (NS.out.kpNo k7)
            clear k7
            cases r with
            | some c2 =>
              have RC2 := Lib.hid (cmP_some HRR.out).2.2
              have PL2 := Lib.hid (show plF F T k s0 kk c = plF F T k s0 m c2 ++ (L ++ [((a : Int), nw)]).reverse by
                rw [PLE.out, List.reverse_append]
                unfold plF
                rw [plP_some NST.out HRR.out, ← HNW.out]
                simp)
              have hc0 : decide ((c2 : Int) ≥ 0) = true := by simp
              unfold optI
              simp only
              go_wp2_with (at_builtin; refine wpl_append elT rfl (.tmp 85) (.tmp 89) rfl rfl rfl (v := .slice Ao lo qo) (l := L) (m := [((a : Int), nw)]) ?c1 ?c2 ?c3 ?c4 ?c5)
              case c1 => exact NS7.out.own.alloc _
              case c2 => exact Rd.litAt TK 58 _ _ [((a : Int), nw)] rfl (by unfold maxLen; simp) _ _ rfl rfl
              case c3 => rw [← HLO.out, List.length_singleton]; unfold maxLen; omega
              case c4 => rw [← HLO.out, List.length_singleton]; omega
              case c5 =>
                intro v' w' k1 k2 k3
                have n5 := NS7.out.app ((Kp.refl No w7).alloc (.cells #[.int .i64 (a : Int), .int .i64 nw] 58)) k1 k2 k3 (by omega)
                have N5 := Lib.hid n5
                clear k1 k2 k3 n5
                go_wp2_with fail
                go_roundg (m + 1)
                case measure => omega
                case rel => exact ⟨m, c2, _, rfl, by rw [show s0 + (m : Int) = nw - 1 by have := HNW.out; omega], rfl, by omega, RC2.out, N5.out, PL2.out, by rw [List.length_append, List.length_singleton]; have := HLB.out; omega⟩
            | none =>
              have RC2 := Lib.hid (rch_stay FL.out RC.out HRR.out)
              have PL2 := Lib.hid (show plF F T k s0 kk c = plF F T k s0 m a ++ L.reverse by
                rw [PLE.out]
                unfold plF
                rw [plP_none NST.out HRR.out])
              have hc0 : decide ((-1 : Int) ≥ 0) = false := by simp
              unfold optI
              simp only
              go_wp2_with fail
              go_roundg (m + 1)
              case measure => omega
              case rel => exact ⟨m, a, L, rfl, by rw [show s0 + (m : Int) = nw - 1 by have := HNW.out; omega], rfl, by omega, RC2.out, NS7.out, PL2.out, by have := HLB.out; omega⟩
          · skip
            have hwm : IntKind.i64.wrap (nw - 1) = nw - 1 := IntWalk.i64_in _ (by have := HNW.out; have := HS0.out; have := HKK.out; omega)
            obtain ⟨r, hr⟩ : ∃ r, cmP T (stepsP F k []) (fun c => nearP F c) k s0 (okF F k) m a = r := ⟨_, rfl⟩
            have CA := Lib.hid (spcame_any (CS4.out.no (K46.out.no NS.out.kp)) (SV4.out.no (K46.out.no NS.out.kp)) a (RL.out _ a RC.out) nw (by have := HNW.out; have := HS0.out; have := HKK.out; omega) r (by rw [show nw - 1 = s0 + (m : Int) by have := HNW.out; omega, CM.out m a (by have := HKK.out; omega)]; exact hr))
            have HRR := Lib.hid hr
            obtain ⟨lo, hlo⟩ : ∃ l, l = L.length := ⟨_, rfl⟩
            obtain ⟨Ao, qo, hov⟩ := NS.out.own.rd.shape
            rw [← hlo] at hov
            subst hov
            have HLO := Lib.hid hlo
            have hlob : lo ≤ 60 := by have := HLB.out; rw [← hlo] at this; have := HKK.out; omega
            clear hr hlo
            go_wp2_with fail
            refine CA.out.mono ?_
            rintro e w7 ⟨rfl, k7⟩
            have NS7 := Lib.hid (NS.out.kpNo k7)
            clear k7
            cases r with
            | some c2 =>
              have RC2 := Lib.hid (cmP_some HRR.out).2.2
              have PL2 := Lib.hid (show plF F T k s0 kk c = plF F T k s0 m c2 ++ (L ++ [((a : Int), nw)]).reverse by
                rw [PLE.out, List.reverse_append]
                unfold plF
                rw [plP_some NST.out HRR.out, ← HNW.out]
                simp)
              have hc0 : decide ((c2 : Int) ≥ 0) = true := by simp
              unfold optI
              simp only
              go_wp2_with (at_builtin; refine wpl_append elT rfl (.tmp 85) (.tmp 89) rfl rfl rfl (v := .slice Ao lo qo) (l := L) (m := [((a : Int), nw)]) ?c1 ?c2 ?c3 ?c4 ?c5)
              case c1 => exact NS7.out.own.alloc _
              case c2 => exact Rd.litAt TK 58 _ _ [((a : Int), nw)] rfl (by unfold maxLen; simp) _ _ rfl rfl
              case c3 => rw [← HLO.out, List.length_singleton]; unfold maxLen; omega
              case c4 => rw [← HLO.out, List.length_singleton]; omega
              case c5 =>
                intro v' w' k1 k2 k3
                have n5 := NS7.out.app ((Kp.refl No w7).alloc (.cells #[.int .i64 (a : Int), .int .i64 nw] 58)) k1 k2 k3 (by omega)
                have N5 := Lib.hid n5
                clear k1 k2 k3 n5
                go_wp2_with fail
                go_roundg (m + 1)
                case measure => omega
                case rel => exact ⟨m, c2, _, rfl, by rw [show s0 + (m : Int) = nw - 1 by have := HNW.out; omega], rfl, by omega, RC2.out, N5.out, PL2.out, by rw [List.length_append, List.length_singleton]; have := HLB.out; omega⟩
            | none =>
              have RC2 := Lib.hid (rch_stay FL.out RC.out HRR.out)
              have PL2 := Lib.hid (show plF F T k s0 kk c = plF F T k s0 m a ++ L.reverse by
                rw [PLE.out]
                unfold plF
                rw [plP_none NST.out HRR.out])
              have hc0 : decide ((-1 : Int) ≥ 0) = false := by simp
              unfold optI
              simp only
              go_wp2_with fail
              go_roundg (m + 1)
              case measure => omega
              case rel => exact ⟨m, a, L, rfl, by rw [show s0 + (m : Int) = nw - 1 by have := HNW.out; omega], rfl, by omega, RC2.out, NS7.out, PL2.out, by have := HLB.out; omega⟩
end Go.Proofs.YtgdokpfepfmbmaaDoor

namespace Go.Proofs.YtgdokpfepfmbmaaDoor
set_option linter.unusedVariables false
set_option linter.unusedSimpArgs false
open Go.RowKit

theorem neqT (x y : Int × Int) (b : Bool) (hb : b = !decide (x = y)) (w : World) : (binOp .neq 58 (.agg #[.int .i64 x.1, .int .i64 x.2]) (.agg #[.int .i64 y.1, .int .i64 y.2])).run Tryd.prog w = .ok (.bool b) w := by
  subst hb
  have h : decide (x = y) = (decide (x.1 = y.1) && decide (x.2 = y.2)) := by
    rw [← Bool.decide_and]; exact decide_eq_decide.2 Prod.ext_iff
  rw [h]
  by_cases h1 : x.1 = y.1 <;> by_cases h2 : x.2 = y.2 <;> simp [binOp, Op.equal, Op.maxDepth, go_sem, h1, h2]

theorem sameT_any {a b : Value} {l m : List (Int × Int)} {w : World} (ha : Rd TK w a l) (hb : Rd TK w b m) (hl : l.length ≤ 1000000) (hm : m.length ≤ 1000000) (r : Bool) (hr : r = decide (l = m)) :
    Calls Tryd.prog 22 #[a, b] w fun e w' => e = .returned (.bool r) ∧ Kp No w w' := by
  obtain ⟨A, ca, rfl⟩ := ha.shape
  obtain ⟨B, cb, rfl⟩ := hb.shape
  have HR := Lib.hid hr
  by_cases hlen : ¬ l.length = m.length
  · have hd : r = false := by rw [hr]; simp; intro e; exact hlen (by rw [e])
    subst hd
    have hne : ((l.length : Int) != (m.length : Int)) = true := by rw [bne_iff_ne]; omega
    clear hr hlen ha hb
    go_enter Tryd.func22, Tryd.ntmps22
    go_wp2
    go_ret
    exact ⟨rfl, Kp.refl _ _⟩
  · have hlen := Decidable.not_not.1 hlen
    have hne : ((l.length : Int) != (m.length : Int)) = false := by simp [hlen]
    have HL := Lib.hid hlen
    have HA := Lib.hid ha; have HB := Lib.hid hb
    clear hr hlen ha hb
    go_enter Tryd.func22, Tryd.ntmps22
    go_wp2
    go_loopw [5] (fun i wr => ∃ k : Nat, i = .int .i64 k ∧ k ≤ l.length ∧ (∀ j : Nat, j < k → l[j]? = m[j]?) ∧ Kp No w wr) (fun i _ => l.length - (intOf i).toNat)
    case atStart => exact ⟨0, rfl, by omega, by intros; omega, Kp.refl _ _⟩
    case round =>
      obtain ⟨k, rfl, hk, heq, hK⟩ := hrel
      by_cases hlt : k < l.length
      · obtain ⟨x, hx⟩ : ∃ x, l[k]? = some x := ⟨_, List.getElem?_eq_getElem hlt⟩
        have hkm : k < m.length := by have := HL.out; omega
        obtain ⟨y, hy⟩ : ∃ y, m[k]? = some y := ⟨_, List.getElem?_eq_getElem hkm⟩
        have RA := HA.out.kpNo hK
        have RB := HB.out.kpNo hK
        rcases RA with ⟨hv, he⟩ | ⟨g, o, c1, hv, _⟩
        · rw [he] at hlt; simp at hlt
        rcases RB with ⟨hv2, he⟩ | ⟨g2, o2, c2, hv2, _⟩
        · rw [he] at hkm; simp at hkm
        simp only [Value.slice.injEq] at hv hv2
        obtain ⟨rfl, _, rfl⟩ := hv
        obtain ⟨rfl, _, rfl⟩ := hv2
        obtain ⟨hx1, hx2⟩ := (HA.out.kpNo hK).stpAt hx
        obtain ⟨hy1, hy2⟩ := (HB.out.kpNo hK).stpAt hy
        have hltI : (k : Int) < (l.length : Int) := by omega
        have hltJ : (k : Int) < (m.length : Int) := by omega
        have HE := Lib.hid heq; have HK := Lib.hid hK; have HX := Lib.hid hx; have HY := Lib.hid hy
        clear heq hK hx hy
        by_cases hxy : x = y
        · subst hxy
          have hq := neqT x x false (by simp)
          go_wp2
          go_quiet (fail)
          go_wp2
          go_roundw
          case rel =>
            refine ⟨k + 1, by go_num, hlt, ?_, HK.out.drewN _⟩
            intro j hj
            by_cases hjk : j = k
            · subst hjk; rw [HX.out, HY.out]
            · exact HE.out j (by omega)
          case measure => simp [intOf]; omega
        · have hq := neqT x y true (by simp [hxy])
          have hd : r = false := by
            rw [HR.out]; simp
            rintro rfl
            have := HX.out.symm.trans HY.out
            simp at this
            exact hxy this
          subst hd
          clear hxy
          go_wp2
          go_quiet (fail)
          go_wp2
          go_ret
          exact ⟨rfl, HK.out.drewN _⟩
      · obtain rfl : k = l.length := by omega
        have hd : r = true := by
          rw [HR.out]; simp
          apply List.ext_getElem?
          intro j
          by_cases hj : j < l.length
          · exact heq j hj
          · rw [List.getElem?_eq_none (by omega), List.getElem?_eq_none (by have := HL.out; omega)]
        subst hd
        have HK := Lib.hid hK
        clear heq hK
        go_wp2
        go_ret
        exact ⟨rfl, HK.out⟩
/-- The document's table reads as T. -/
def RefW (w : World) (br : Nat) (T : Int → List (Int × Int)) : Prop := ∃ R V, RepR w br R V ∧ R.length ≤ 1000 ∧ ∀ c, flt R c = T c
theorem RefW.no {w w' : World} {br : Nat} {T : Int → List (Int × Int)} (h : RefW w br T) (hk : Kp No w w') : RefW w' br T := let ⟨R, V, a, b, c⟩ := h; ⟨R, V, a.kpNo hk, b, c⟩
theorem refIs_any {w : World} {br : Nat} {T : Int → List (Int × Int)} (h : RefW w br T) (hT : WFT T) (c m : Int) (r : Bool) (hr : isF (T c) m = r) :
    Calls Tryd.prog 52 #[.pointer (some ⟨br, 0, none⟩), .int .i64 c, .int .i64 m] w fun e w' => e = .returned (.bool r) ∧ Kp No w w' := by
  obtain ⟨R, V, h1, h2, h3⟩ := h
  exact ris_any h1 h2 c m r (by rw [h3, ← hr, ref_is (hT c)])
/-- Is the cell free at the first so many moments behind one? -/
def wtB (l : List (Int × Int)) (s : Int) (n : Nat) : Bool := (List.range n).all fun i => isF l (s + ((i + 1 : Nat) : Int))
theorem wtB_succ (l : List (Int × Int)) (s : Int) (n : Nat) : wtB l s (n + 1) = (wtB l s n && isF l (s + ((n + 1 : Nat) : Int))) := by
  unfold wtB; rw [List.range_succ, List.all_append]; simp
set_option maxRecDepth 100000 in
theorem waits_any {w : World} {br : Nat} {T : Int → List (Int × Int)} (h : RefW w br T) (hT : WFT T) (c : Int) (s : Int) (hs : 0 ≤ s ∧ s < 1048576) (n : Nat) (hn : n ≤ 1024) (r : Bool) (hr : wtB (T c) s n = r) :
    Calls Tryd.prog 49 #[.pointer (some ⟨br, 0, none⟩), .int .i64 c, .int .i64 s, .int .i64 (n : Int)] w fun e w' => e = .returned (.bool r) ∧ Kp No w w' := by
  have H := Lib.hid h; have HT := Lib.hid hT; have HR := Lib.hid hr
  clear h hT hr
  go_enter Tryd.func49, Tryd.ntmps49
  go_wp2_with fail
  go_loopg [9] (n + 1) (fun g_ iv wx => ∃ i : Nat, g_ = n + 1 - i ∧ iv = .int .i64 ((i + 1 : Nat) : Int) ∧ i ≤ n ∧ wtB (T c) s i = true ∧ Kp No w wx)
  case atStart => exact ⟨0, rfl, rfl, by omega, rfl, Kp.refl _ _⟩
  case round =>
    obtain ⟨i, hg, rfl, hi, hw, kp⟩ := hrel
    have WB := Lib.hid hw; have KP := Lib.hid kp
    obtain ⟨j, hj⟩ : ∃ j : Nat, j = i + 1 := ⟨_, rfl⟩
    rw [← hj]
    have HJ := Lib.hid hj
    clear hw kp
    by_cases hlt : i < n
    · have hltI : (j : Int) ≤ (n : Int) := by omega
      have hwj : IntKind.i64.wrap ((j : Int) + 1) = (j : Int) + 1 := IntWalk.i64_in _ (by omega)
      have hws : IntKind.i64.wrap (s + (j : Int)) = s + (j : Int) := IntWalk.i64_in _ (by omega)
      obtain ⟨t, ht⟩ : ∃ t, isF (T c) (s + (j : Int)) = t := ⟨_, rfl⟩
      have RI := Lib.hid (refIs_any (H.out.no KP.out) HT.out c (s + (j : Int)) t ht)
      have HS := Lib.hid (show wtB (T c) s (i + 1) = t by rw [wtB_succ, WB.out, ← hj, ht]; rfl)
      clear ht hlt hj
      go_wp2_with fail
      refine RI.out.mono ?_
      rintro e w1 ⟨rfl, k1⟩
      have K1 := Lib.hid (KP.out.no k1)
      clear k1
      cases t with
      | true =>
        go_wp2_with fail
        go_roundg (n + 1 - (i + 1))
        case measure => omega
        case rel => exact ⟨i + 1, rfl, by rw [show ((i + 1 + 1 : Nat) : Int) = (j : Int) + 1 by have := HJ.out; omega], by have := HJ.out; omega, HS.out, K1.out⟩
      | false =>
        have HE := Lib.hid (show r = false by
          rw [← HR.out]
          cases hb : wtB (T c) s n with
          | false => rfl
          | true =>
            unfold wtB at hb
            rw [List.all_eq_true] at hb
            have hin : i < n := by have := HJ.out; omega
            have h1 := hb i (List.mem_range.2 hin)
            have h2 := HS.out
            rw [wtB_succ, h1, Bool.and_true] at h2
            rw [WB.out] at h2; cases h2)
        go_wp2_with fail
        go_ret
        exact ⟨by rw [HE.out]; rfl, K1.out⟩
    · have hd0 : ¬ (j : Int) ≤ (n : Int) := by omega
      have HE := Lib.hid (show r = true by rw [← HR.out, show n = i by omega]; exact WB.out)
      clear hlt hj
      go_wp2_with fail
      go_ret
      exact ⟨by rw [HE.out]; rfl, KP.out⟩
end Go.Proofs.YtgdokpfepfmbmaaDoor

namespace Go.Proofs.YtgdokpfepfmbmaaDoor
set_option linter.unusedVariables false
set_option linter.unusedSimpArgs false
open Go.RowKit

open Classical in
noncomputable def lvB (n : Nat) (p : Nat → Prop) : List Bool := (List.range n).map fun c => decide (p c)
theorem lvB_len (n : Nat) (p : Nat → Prop) : (lvB n p).length = n := by simp [lvB]
open Classical in
theorem lvB_get {n : Nat} {p : Nat → Prop} {c : Nat} (h : c < n) : (lvB n p)[c]? = some (decide (p c)) := by simp [lvB, List.getElem?_range h]
theorem lvB_iff {n : Nat} {p : Nat → Prop} {c : Nat} {b : Bool} (h : (lvB n p)[c]? = some b) : c < n ∧ (b = true ↔ p c) := by
  have hl := (List.getElem?_eq_some_iff.1 h).1
  rw [lvB_len] at hl
  rw [lvB_get hl] at h
  cases h
  exact ⟨hl, by simp⟩
theorem lvB_ext {n : Nat} {p q : Nat → Prop} (h : ∀ c, c < n → (p c ↔ q c)) : lvB n p = lvB n q := by
  apply List.ext_getElem?
  intro c
  rcases Nat.lt_or_ge c n with hc | hc
  · rw [lvB_get hc, lvB_get hc]
    simp [h c hc]
  · rw [List.getElem?_eq_none (by rw [lvB_len]; exact hc), List.getElem?_eq_none (by rw [lvB_len]; exact hc)]
theorem lvB_set {n : Nat} {p q : Nat → Prop} {a : Nat} {b : Bool} (ha : a < n) (h1 : b = true ↔ q a) (h : ∀ c, c < n → c ≠ a → (p c ↔ q c)) : (lvB n p).set a b = lvB n q := by
  apply List.ext_getElem?
  intro c
  rw [List.getElem?_set, lvB_len]
  rcases Nat.lt_or_ge c n with hc | hc
  · rw [lvB_get hc, lvB_get hc]
    by_cases e : a = c
    · subst e
      rw [if_pos rfl, if_pos ha]
      congr 1
      rw [Bool.eq_iff_iff, h1]; simp
    · rw [if_neg e]
      simp [h c hc (fun e2 => e e2.symm)]
  · rw [if_neg (by omega), List.getElem?_eq_none (by rw [lvB_len]; exact hc), List.getElem?_eq_none (by rw [lvB_len]; exact hc)]
section
variable {T : Int → List (Int × Int)} {st : Nat → List Nat} {fr n k : Nat} {s0 : Int}
/-- Of the next level, what comes out of the first j cells. -/
def NxJ (T : Int → List (Int × Int)) (st : Nat → List Nat) (fr : Nat) (s0 : Int) (k j c : Nat) : Prop := isF (T c) (s0 + ((k + 1 : Nat) : Int)) = true ∧ ∃ i, i < j ∧ Rch T st fr s0 k i ∧ (c = i ∨ c ∈ st i)
/-- ... and out of cell j, to itself and the first m beside. -/
def NxM (T : Int → List (Int × Int)) (st : Nat → List Nat) (fr : Nat) (s0 : Int) (k j m c : Nat) : Prop := NxJ T st fr s0 k j c ∨ (isF (T c) (s0 + ((k + 1 : Nat) : Int)) = true ∧ (c = j ∨ c ∈ (st j).take m))
theorem nx_zero : lvB n (NxJ T st fr s0 k 0) = List.replicate n false := by
  apply List.ext_getElem?
  intro c
  rw [List.getElem?_replicate]
  rcases Nat.lt_or_ge c n with hc | hc
  · rw [lvB_get hc, if_pos hc]
    congr 1
    simp [NxJ]
  · rw [List.getElem?_eq_none (by rw [lvB_len]; exact hc), if_neg (by omega)]
theorem nx_skip {j : Nat} (h : ¬ Rch T st fr s0 k j) : lvB n (NxJ T st fr s0 k (j + 1)) = lvB n (NxJ T st fr s0 k j) := lvB_ext fun c _ => by
  unfold NxJ
  constructor
  · rintro ⟨h1, i, hi, h2, h3⟩
    exact ⟨h1, i, by have : i ≠ j := fun e => h (e ▸ h2); omega, h2, h3⟩
  · rintro ⟨h1, i, hi, h2, h3⟩
    exact ⟨h1, i, by omega, h2, h3⟩
theorem nx_into {j : Nat} {b : Bool} (hj : j < n) (hb : isF (T j) (s0 + ((k + 1 : Nat) : Int)) = b) : (lvB n (NxJ T st fr s0 k j)).set j b = lvB n (NxM T st fr s0 k j 0) := by
  refine lvB_set hj ?_ fun c hc hne => ?_
  · unfold NxM NxJ
    rw [hb]
    constructor
    · intro e; exact .inr ⟨e, .inl rfl⟩
    · rintro (⟨e, _⟩ | ⟨e, _⟩) <;> exact e
  · unfold NxM
    constructor
    · exact .inl
    · rintro (e | ⟨_, e | e⟩)
      · exact e
      · exact absurd e hne
      · simp at e
theorem nx_hit {j m a : Nat} (ha : a < n) (hm : (st j)[m]? = some a) (hb : isF (T a) (s0 + ((k + 1 : Nat) : Int)) = true) : (lvB n (NxM T st fr s0 k j m)).set a true = lvB n (NxM T st fr s0 k j (m + 1)) := by
  have e : (st j).take (m + 1) = (st j).take m ++ [a] := by rw [List.take_add_one, hm]; rfl
  refine lvB_set ha ?_ fun c hc hne => ?_
  · constructor
    · intro _; exact .inr ⟨hb, .inr (by rw [e]; simp)⟩
    · intro _; rfl
  · unfold NxM
    rw [e]
    constructor
    · rintro (h | ⟨h1, h2 | h2⟩)
      · exact .inl h
      · exact .inr ⟨h1, .inl h2⟩
      · exact .inr ⟨h1, .inr (List.mem_append_left _ h2)⟩
    · rintro (h | ⟨h1, h2 | h2⟩)
      · exact .inl h
      · exact .inr ⟨h1, .inl h2⟩
      · rcases List.mem_append.1 h2 with h3 | h3
        · exact .inr ⟨h1, .inr h3⟩
        · simp at h3; exact absurd h3 hne
theorem nx_miss {j m a : Nat} (hm : (st j)[m]? = some a) (hb : isF (T a) (s0 + ((k + 1 : Nat) : Int)) = false) : lvB n (NxM T st fr s0 k j (m + 1)) = lvB n (NxM T st fr s0 k j m) := lvB_ext fun c _ => by
  have e : (st j).take (m + 1) = (st j).take m ++ [a] := by rw [List.take_add_one, hm]; rfl
  unfold NxM
  rw [e]
  constructor
  · rintro (h | ⟨h1, h2 | h2⟩)
    · exact .inl h
    · exact .inr ⟨h1, .inl h2⟩
    · rcases List.mem_append.1 h2 with h3 | h3
      · exact .inr ⟨h1, .inr h3⟩
      · simp at h3; subst h3; rw [hb] at h1; cases h1
  · rintro (h | ⟨h1, h2 | h2⟩)
    · exact .inl h
    · exact .inr ⟨h1, .inl h2⟩
    · exact .inr ⟨h1, .inr (List.mem_append_left _ h2)⟩
theorem nx_out {j m : Nat} (h : Rch T st fr s0 k j) (hm : m = (st j).length) : lvB n (NxM T st fr s0 k j m) = lvB n (NxJ T st fr s0 k (j + 1)) := lvB_ext fun c _ => by
  subst hm
  unfold NxM NxJ
  rw [List.take_length]
  constructor
  · rintro (⟨h1, i, hi, h2, h3⟩ | ⟨h1, h2⟩)
    · exact ⟨h1, i, by omega, h2, h3⟩
    · exact ⟨h1, j, by omega, h, h2⟩
  · rintro ⟨h1, i, hi, h2, h3⟩
    by_cases e : i = j
    · subst e; exact .inr ⟨h1, h3⟩
    · exact .inl ⟨h1, i, by omega, h2, h3⟩
theorem nx_done (hlt : ∀ i, Rch T st fr s0 k i → i < n) : lvB n (NxJ T st fr s0 k n) = lvB n (Rch T st fr s0 (k + 1)) := lvB_ext fun c _ => by
  unfold NxJ
  show _ ↔ (isF (T c) (s0 + ((k + 1 : Nat) : Int)) = true ∧ (Rch T st fr s0 k c ∨ ∃ u, Rch T st fr s0 k u ∧ c ∈ st u))
  constructor
  · rintro ⟨h1, i, _, h2, rfl | h3⟩
    · exact ⟨h1, .inl h2⟩
    · exact ⟨h1, .inr ⟨i, h2, h3⟩⟩
  · rintro ⟨h1, h2 | ⟨u, h2, h3⟩⟩
    · exact ⟨h1, c, hlt c h2, h2, .inl rfl⟩
    · exact ⟨h1, u, hlt u h2, h2, .inr h3⟩
theorem rc_first (hf : fr < n) : (List.replicate n false).set fr true = lvB n (Rch T st fr s0 0) := by
  have e : List.replicate n false = lvB n (fun _ => False) := by
    apply List.ext_getElem?
    intro c
    rw [List.getElem?_replicate]
    rcases Nat.lt_or_ge c n with hc | hc
    · rw [lvB_get hc, if_pos hc]; simp
    · rw [List.getElem?_eq_none (by rw [lvB_len]; exact hc), if_neg (by omega)]
  rw [e]
  refine lvB_set hf ⟨fun _ => rfl, fun _ => rfl⟩ fun c _ hne => ⟨False.elim, fun h => hne h⟩
end
end Go.Proofs.YtgdokpfepfmbmaaDoor

namespace Go.Proofs.YtgdokpfepfmbmaaDoor
set_option linter.unusedVariables false
set_option linter.unusedSimpArgs false
open Go.RowKit

theorem elBs : ElT Tryd.prog 91 34 SvK 24 := ElT.of (z := .slice none 0 0) (by kernel_rfl) (by kernel_rfl) rfl
/-- A block of bools that came behind w1. -/
structure QbW (w1 : World) (gd : Nat) (D : List Bool) (w : World) : Prop where
  d : Blk Value.bool 4 w gd D
  ge : w1.heap.size ≤ gd
  kp : Kp No w1 w
theorem QbW.no {w1 w w' : World} {gd : Nat} {D : List Bool} (h : QbW w1 gd D w) (hk : Kp No w w') : QbW w1 gd D w' := ⟨h.d.kpNo hk, h.ge, h.kp.no hk⟩
theorem QbW.set {w1 w : World} {gd : Nat} {D : List Bool} (h : QbW w1 gd D w) (c : Nat) (x : Bool) : QbW w1 gd (D.set c x) (w.setCell ⟨gd, c, none⟩ (.bool x)) :=
  ⟨h.d.set c x, h.ge, h.kp.setCell (p := ⟨gd, c, none⟩) (fun e => by have := h.ge; have e : gd < w1.heap.size := e; omega) _⟩
theorem QbW.mk0 (w : World) (n : Nat) : QbW w w.heap.size (List.replicate n false) (w.alloc (.cells (Array.replicate n (.bool false)) 4)) :=
  ⟨by have h : Blk Value.bool 4 (w.alloc (.cells ((List.replicate n false).map Value.bool).toArray 4)) w.heap.size (List.replicate n false) := blk_new w _
      simpa using h, Nat.le_refl _, (Kp.refl _ _).alloc _⟩
/-- The first k + 1 levels. -/
structure LvW (P : Nat → Nat → Prop) (n : Nat) (w1 : World) (k : Nat) (av : Value) (Ls : List SlC) (w : World) : Prop where
  own : Own SvK 34 w av Ls
  ge : ∀ g, av.ownBlock = some g → w1.heap.size ≤ g
  len : Ls.length = k + 1
  lv : ∀ (i : Nat) x, Ls[i]? = some x → ∃ g, x = (some ⟨g, 0, none⟩, n, n) ∧ Blk Value.bool 4 w g (lvB n (P i)) ∧ w1.heap.size ≤ g ∧ av.ownBlock ≠ some g
  kp : Kp No w1 w
section
variable {P : Nat → Nat → Prop} {n k g gN b : Nat} {av : Value} {Ls : List SlC} {w1 w w' wB : World}
theorem LvW.no (h : LvW P n w1 k av Ls w) (hk : Kp No w w') : LvW P n w1 k av Ls w' :=
  ⟨h.own.kpNo hk, h.ge, h.len, fun i x hx => let ⟨g, a, b, c, d⟩ := h.lv i x hx; ⟨g, a, b.kpNo hk, c, d⟩, h.kp.no hk⟩
theorem LvW.one (q : QbW w1 g (lvB n (P 0)) w) (hb : b = w.heap.size) : LvW P n w1 0 (.slice (some ⟨b, 0, none⟩) 1 1) [(some ⟨g, 0, none⟩, n, n)] (w.alloc (.cells #[.slice (some ⟨g, 0, none⟩) n n] 34)) := by
  subst hb
  refine ⟨Own.lit SvK 34 w [.slice (some ⟨g, 0, none⟩) n n] [(some ⟨g, 0, none⟩, n, n)] rfl (by unfold maxLen; simp), ?_, rfl, ?_, q.kp.alloc _⟩
  · intro g2 hg
    simp only [Value.ownBlock, Option.some.injEq] at hg
    have := q.kp.size
    first | (subst hg; exact this) | (simp at hg; omega)
  · intro i x hx
    have hi := (List.getElem?_eq_some_iff.1 hx).1
    have hi : i = 0 := by simpa using hi
    subst hi
    simp at hx
    subst hx
    refine ⟨g, rfl, q.d.alloc _, q.ge, ?_⟩
    have := q.d.lt
    simp [Value.ownBlock]
    try omega
theorem LvW.app (h : LvW P n w1 k av Ls wB) (q : QbW wB gN (lvB n (P (k + 1))) w) {o : Obj} {v' : Value} (m1 : Own SvK 34 w' v' (Ls ++ [(some ⟨gN, 0, none⟩, n, n)])) (m2 : Kp (fun b => av.ownBlock = some b) (w.alloc o) w') (m3 : ∀ g, v'.ownBlock = some g → av.ownBlock = some g ∨ (w.alloc o).heap.size ≤ g) : LvW P n w1 (k + 1) v' (Ls ++ [(some ⟨gN, 0, none⟩, n, n)]) w' := by
  have s1 := h.kp.size
  have s2 := q.kp.size
  have s3 := ((Kp.refl No w).alloc o).size
  refine ⟨m1, ?_, by simp [h.len], ?_, ?_⟩
  · intro g hg
    rcases m3 g hg with e | e
    · exact h.ge g e
    · omega
  · intro i x hx
    rw [List.getElem?_append] at hx
    split at hx
    · obtain ⟨g, e, bk, g1, g2⟩ := h.lv i x hx
      have b2 := (bk.kpNo q.kp).alloc o
      refine ⟨g, e, b2.kp m2 g2, g1, fun e2 => ?_⟩
      rcases m3 g e2 with e3 | e3
      · exact g2 e3
      · have := b2.lt; omega
    · rename_i hni
      have hi : i - Ls.length = 0 := by have := (List.getElem?_eq_some_iff.1 hx).1; simpa using this
      rw [hi] at hx
      simp at hx
      subst hx
      have e : i = k + 1 := by have := h.len; omega
      subst e
      have hg : av.ownBlock ≠ some gN := fun e => by have := h.own.lt e; have := q.ge; omega
      refine ⟨gN, rfl, (q.d.alloc o).kp m2 hg, by have := q.ge; omega, fun e2 => ?_⟩
      rcases m3 gN e2 with e3 | e3
      · exact hg e3
      · have := (q.d.alloc o).lt; omega
  · exact ((h.kp.no q.kp).alloc o).trans' m2 fun j hj e => by have := h.ge j e; omega
end
end Go.Proofs.YtgdokpfepfmbmaaDoor

namespace Go.Proofs.YtgdokpfepfmbmaaDoor
set_option linter.unusedVariables false
set_option linter.unusedSimpArgs false
open Go.RowKit

theorem QbW.mk1 (w : World) (n c : Nat) : QbW w w.heap.size ((List.replicate n false).set c true) (w.alloc (.cells ((Array.replicate n (.bool false)).setIfInBounds c (.bool true)) 4)) :=
  ⟨by have h : Blk Value.bool 4 (w.alloc (.cells (((List.replicate n false).set c true).map Value.bool).toArray 4)) w.heap.size ((List.replicate n false).set c true) := blk_new w _
      rw [List.map_set, List.map_replicate, ← List.setIfInBounds_toArray, List.toArray_replicate] at h
      exact h, Nat.le_refl _, (Kp.refl _ _).alloc _⟩
set_option maxHeartbeats 2000000 in
set_option maxRecDepth 100000 in
theorem reach_ok {f : Flr} {n : Nat} {M : MpC} {Vs : List SlC} {br : Nat} {T : Int → List (Int × Int)} {w : World} (h : MpW f n M Vs w) (hn : n ≤ 1000) (hR : RefW w br T) (hT : WFT T) (fr : Nat) (s0 : Int) (A : Nat) (hA : A ≤ 1024) (hok : spOk f fr s0 = true) :
    Calls Tryd.prog 42 #[M.val n, .pointer (some ⟨br, 0, none⟩), .int .i64 (fr : Int), .int .i64 s0, .int .i64 (A : Int)] w fun e w' => ∃ v Ls, e = .returned v ∧ LvW (Rch T (stepsP f fr []) fr s0) n w A v Ls w' := by
  obtain ⟨w1, hw1⟩ : ∃ w1, w1 = w.alloc (.cells #[.slice M.A1 n M.q1, .slice M.A2 n M.q2, .slice M.A3 n M.q3] 36) := ⟨_, rfl⟩
  have K1 := Lib.hid (show Kp No w w1 by rw [hw1]; exact (Kp.refl _ _).alloc _)
  have BX := Lib.hid (show w1.heap[w.heap.size]? = some (.cells #[.slice M.A1 n M.q1, .slice M.A2 n M.q2, .slice M.A3 n M.q3] 36 (0, 0)) by rw [hw1]; exact blk_new w _)
  have HW1 := Lib.hid hw1
  clear hw1
  have H := Lib.hid (h.no K1.out); have RW := Lib.hid (hR.no K1.out); have HT := Lib.hid hT
  have lb : ∀ wx, Kp No w1 wx → wx.cell? ⟨w.heap.size, 0, none⟩ = some (.slice M.A1 n M.q1) ∧ wx.cell? ⟨w.heap.size, 1, none⟩ = some (.slice M.A2 n M.q2) ∧ wx.cell? ⟨w.heap.size, 2, none⟩ = some (.slice M.A3 n M.q3) := fun wx hk => by
    have := hk.blk BX.out (no_no _)
    exact ⟨blk_cell this 0, blk_cell this 1, blk_cell this 2⟩
  have LB := Lib.hid lb
  clear lb
  have hpt : ptOk f (fr : Int) = true ∧ 0 ≤ s0 ∧ s0 < 1048576 := by
    unfold spOk at hok; simp only [Bool.and_eq_true, decide_eq_true_eq] at hok; exact ⟨hok.1.1, hok.1.2, hok.2⟩
  obtain ⟨hpt, hs0, hs1⟩ := hpt
  obtain ⟨k0, hk0, hk, hr⟩ := ptOk_nat hpt
  obtain rfl : fr = k0 := by omega
  have hnf : n = f.s.size := by rw [h.hn]; unfold mpN; rw [if_pos (rightB_iff.2 hr)]
  have hopen : (bt f.s fr != 35) = true := by
    unfold ptOk at hpt; simp only [Bool.and_eq_true, Int.toNat_natCast] at hpt; exact hpt.2
  obtain ⟨st, hst⟩ : ∃ st, st = stepsP f fr [] := ⟨_, rfl⟩
  rw [← hst]
  have HST := Lib.hid (show ∀ u c, u < n → c ∈ st u → c < n by
    intro u c hu hc
    rw [hst] at hc
    have := steps_sz hr (show u < f.s.size by omega) hc
    omega)
  have hkn : fr < n := by omega
  have hkI : (fr : Int) < (n : Int) := by omega
  have HKN := Lib.hid hkn
  have RLT := Lib.hid (show ∀ k i, Rch T st fr s0 k i → i < n by
    intro k
    induction k with
    | zero => intro c hc; have hc : c = fr := hc; omega
    | succ k ih =>
      intro c hc
      obtain ⟨_, hc | ⟨u, hu, hcu⟩⟩ := hc
      · exact ih c hc
      · exact HST.out u c (ih u hu) hcu)
  have QS := Lib.hid (fun u (hu : u < n) wx (hk : Kp No w1 wx) => show Calls Tryd.prog 53 #[M.val n, .int .i64 (u : Int), .int .i64 (fr : Int), .slice none 0 0] wx fun e w' => ∃ v, e = .returned v ∧ NewS IK 3 wx w' v (ints (st u)) by
    rw [hst]; exact q5Steps_any (H.out.no hk) (by omega) u fr hu (Own.nil IK 3 wx).rd)
  have SL := Lib.hid (show ∀ u, (st u).length ≤ 4 by intro u; rw [hst]; exact steps_len f fr [] u)
  obtain ⟨hb0, hb1, hb2⟩ := LB.out w1 (Kp.refl _ _)
  obtain ⟨g3, o3, hA3⟩ := H.out.op.some_ (by omega)
  have hop := H.out.op
  rw [hA3] at hop
  have hcop : w1.cell? ⟨g3, o3 + fr, none⟩ = some (.bool true) := by
    have := hop.one BoK1 (opL_get (f := f) hkn)
    rw [this, hopen]
  obtain ⟨A1, q1, A2, q2, A3, q3⟩ := M
  simp only at hA3
  subst hA3
  unfold MpC.val at QS ⊢
  simp only at hb0 hb1 hb2 QS LB HW1 ⊢
  have hmk := run_mkBo n (by omega)
  have W3 := Lib.hid (QbW.mk0 w1 n)
  have hg0 : (w1.alloc (.cells (Array.replicate n (.bool false)) 4)).cell? ⟨w1.heap.size, fr, none⟩ = some (.bool false) := W3.out.d.get (by rw [List.getElem?_replicate, if_pos hkn])
  have hf0 : (w1.alloc (.cells (Array.replicate n (.bool false)) 4)).frozen? ⟨w1.heap.size, fr, none⟩ = false := W3.out.d.free fr
  have W4 := Lib.hid (show QbW w1 w1.heap.size (lvB n (Rch T st fr s0 0)) _ by rw [← rc_first hkn]; exact QbW.mk1 w1 n fr)
  have d1 : ¬ (n : Int) ≤ (fr : Int) := by omega
  have d2 : ¬ s0 < 0 := by omega
  have d3 : ¬ (1048576 : Int) ≤ s0 := by omega
  have d4 : ¬ (1024 : Int) < (A : Int) := by omega
  have d5 : ¬ (fr : Int) < 0 := by omega
  have d6 : ¬ (A : Int) < 0 := by omega
  clear hok h hR hT H BX hst hk hr hnf hpt hopen hop hkn
  go_enter Tryd.func42, Tryd.ntmps42
  go_upto_region 1 with fail
  rw [← HW1.out]
  go_wp2_with fail
  have L0 := Lib.hid (LvW.one W4.out (b := w1.heap.size + 1) (by simp))
  clear hb0 hb1 hb2 hmk hg0 hf0 W3 W4 hcop d1 d2 d3 d4 d5 d6
  have hmk := run_mkBo n (by omega)
  go_loopg [11, 12, 13] (A + 1) (fun g_ nv av iv wx => ∃ (k gk q : Nat) (Aa : Option Addr) (Ls : List SlC), g_ = A + 1 - k ∧ nv = .slice (some ⟨gk, 0, none⟩) n n ∧ av = .slice Aa (k + 1) q ∧ iv = .int .i64 ((k + 1 : Nat) : Int) ∧ k ≤ A ∧ LvW (Rch T st fr s0) n w1 k (.slice Aa (k + 1) q) Ls wx ∧ Ls[k]? = some (some ⟨gk, 0, none⟩, n, n))
  case atStart => exact ⟨0, w1.heap.size, _, _, [(some ⟨w1.heap.size, 0, none⟩, n, n)], rfl, rfl, rfl, rfl, by omega, L0.out, rfl⟩
  case round =>
    clear L0
    obtain ⟨k, gk, qa, Aa, Ls, hg, rfl, rfl, rfl, hk, lv, hlast⟩ := hrel
    rcases lv.own.b with ⟨hv, _⟩ | ⟨ga, capa, hv, _, _, _⟩
    · simp only [Value.slice.injEq] at hv; omega
    simp only [Value.slice.injEq] at hv
    obtain ⟨rfl, hzq, rfl⟩ := hv
    clear hzq
    have LV := Lib.hid lv; have LAST := Lib.hid hlast
    clear lv hlast
    obtain ⟨j, hj⟩ : ∃ j : Nat, j = k + 1 := ⟨_, rfl⟩
    have HJ := Lib.hid hj
    by_cases hlt : k < A
    · have hltI : ((k + 1 : Nat) : Int) ≤ (A : Int) := by omega
      rw [← hj] at hltI ⊢
      have HKA := Lib.hid hlt
      have hwj : IntKind.i64.wrap ((j : Int) + 1) = (j : Int) + 1 := IntWalk.i64_in _ (by omega)
      have hws : IntKind.i64.wrap (s0 + (j : Int)) = s0 + (j : Int) := IntWalk.i64_in _ (by omega)
      obtain ⟨hb0, hb1, hb2⟩ := LB.out wr LV.out.kp
      obtain ⟨wB, hwB⟩ : ∃ x : World, x = wr := ⟨_, rfl⟩
      rw [← hwB] at hb0 hb1 hb2 LV ⊢
      have Q0 := Lib.hid (show QbW wB wB.heap.size (lvB n (NxJ T st fr s0 k 0)) _ by rw [nx_zero]; exact QbW.mk0 wB n)
      obtain ⟨gN, hgN⟩ : ∃ g, g = wB.heap.size := ⟨_, rfl⟩
      rw [← hgN] at Q0
      have GN := Lib.hid hgN
      have HN := Lib.hid (show Blk Value.bool 4 wB gk (lvB n (Rch T st fr s0 k)) by
        obtain ⟨g, e, b, _, _⟩ := LV.out.lv k _ LAST.out
        simp only [Prod.mk.injEq, Option.some.injEq, Addr.mk.injEq, and_true] at e
        rw [e]; exact b)
      clear hlt hj hwB hgN
      go_wp2_with fail
      rw [← GN.out]
      clear hb0 hb1 hb2
      go_loopg [15] (n + 1) (fun g_ iv wx => ∃ i : Nat, g_ = n + 1 - i ∧ iv = .int .i64 i ∧ i ≤ n ∧ QbW wB gN (lvB n (NxJ T st fr s0 k i)) wx)
      case atStart => exact ⟨0, rfl, rfl, by omega, Q0.out⟩
      case round =>
        clear Q0
        obtain ⟨i, hgi, rfl, hi, qb⟩ := hrel
        have QB := Lib.hid qb
        clear qb
        by_cases hlt : i < n
        · have hltI2 : (i : Int) < (n : Int) := by omega
          have hwi : IntKind.i64.wrap ((i : Int) + 1) = (i : Int) + 1 := IntWalk.i64_in _ (by omega)
          have HIN := Lib.hid hlt
          obtain ⟨b, hb⟩ : ∃ b, (lvB n (Rch T st fr s0 k))[i]? = some b := ⟨_, lvB_get hlt⟩
          have hcn := (HN.out.kpNo QB.out.kp).get hb
          have HB := Lib.hid (lvB_iff hb).2
          clear hb hlt
          cases b with
          | false =>
            have Q2 := Lib.hid (show QbW wB gN (lvB n (NxJ T st fr s0 k (i + 1))) wr by rw [nx_skip (by intro e; have := HB.out.2 e; cases this)]; exact QB.out)
            go_wp2_with fail
            go_roundg (n + 1 - (i + 1))
            case measure => have := HIN.out; omega
            case rel => exact ⟨i + 1, rfl, by go_num, by have := HIN.out; omega, Q2.out⟩
          | true =>
            have HRI := Lib.hid (HB.out.1 rfl)
            obtain ⟨t, ht⟩ : ∃ t, isF (T i) (s0 + (j : Int)) = t := ⟨_, rfl⟩
            have RI := Lib.hid (refIs_any ((RW.out.no LV.out.kp).no QB.out.kp) HT.out i (s0 + (j : Int)) t ht)
            have HTT := Lib.hid ht
            clear ht
            go_wp2_with fail
            refine RI.out.mono ?_
            rintro e w5 ⟨rfl, k5⟩
            have Q5 := Lib.hid (QB.out.no k5)
            obtain ⟨b0, hb0⟩ : ∃ b, (lvB n (NxJ T st fr s0 k i))[i]? = some b := ⟨_, lvB_get HIN.out⟩
            have hcg := Q5.out.d.get hb0
            have hcf := Q5.out.d.free i
            have Q6 := Lib.hid (show QbW wB gN (lvB n (NxM T st fr s0 k i 0)) _ by rw [← nx_into HIN.out (b := t) (by rw [← HTT.out, HJ.out])]; exact Q5.out.set i t)
            clear k5 hb0 hcn RI
            go_upto_region 15 with fail
            obtain ⟨w6, hw6⟩ : ∃ x, x = w5.setCell ⟨gN, i, none⟩ (.bool t) := ⟨_, rfl⟩
            rw [← hw6] at Q6 ⊢
            clear hw6 hcg hcf
            have K6 := LV.out.kp.no Q6.out.kp
            have S6 := Lib.hid (QS.out i HIN.out w6 K6)
            obtain ⟨hb0, hb1, hb2⟩ := LB.out w6 K6
            clear K6
            go_wp2_with fail
            refine S6.out.mono ?_
            rintro e w7 ⟨vL, rfl, ns⟩
            obtain ⟨AL, qL, rfl⟩ := ns.own.rd.shape
            rw [ints_len] at ns ⊢
            obtain ⟨nL, hnL⟩ : ∃ nL, nL = (st i).length := ⟨_, rfl⟩
            rw [← hnL] at ns ⊢
            have hL4 : nL ≤ 4 := by rw [hnL]; exact SL.out i
            have HNL := Lib.hid hnL
            have Q7 := Lib.hid (Q6.out.no ns.kp)
            have OL := Lib.hid ns.own
            have GL := Lib.hid (show ∀ g, (Value.slice AL nL qL).ownBlock = some g → g ≠ gN from fun g hg => by have := ns.ge g hg; have := Q6.out.d.lt; omega)
            clear ns hnL hb0 hb1 hb2 S6
            go_wp2_with fail
            go_loopg [17] (nL + 1) (fun g_ mv wx => ∃ m : Nat, g_ = nL + 1 - m ∧ mv = .int .i64 m ∧ m ≤ nL ∧ QbW wB gN (lvB n (NxM T st fr s0 k i m)) wx ∧ Own IK 3 wx (.slice AL nL qL) (ints (st i)))
            case atStart => exact ⟨0, rfl, rfl, by omega, Q7.out, OL.out⟩
            case round =>
              clear Q5 Q6 Q7 OL QB
              obtain ⟨m, hgm, rfl, hm, qb, ol⟩ := hrel
              have QB := Lib.hid qb; have OL := Lib.hid ol
              clear qb ol
              by_cases hlt : m < nL
              · have hltJ : (m : Int) < (nL : Int) := by omega
                have hwm : IntKind.i64.wrap ((m : Int) + 1) = (m : Int) + 1 := IntWalk.i64_in _ (by omega)
                obtain ⟨c, hc⟩ : ∃ c, (st i)[m]? = some c := ⟨_, List.getElem?_eq_getElem (by rw [← HNL.out]; exact hlt)⟩
                have hcn : c < n := HST.out i c HIN.out (List.mem_of_getElem? hc)
                have hcI : (c : Int) < (n : Int) := by omega
                rcases OL.out.b with ⟨hv, _⟩ | ⟨gL, capL, hv, _, _, _⟩
                · simp only [Value.slice.injEq] at hv; omega
                simp only [Value.slice.injEq] at hv
                obtain ⟨rfl, hzz, rfl⟩ := hv
                clear hzz
                have HC := Lib.hid hc; have HCN := Lib.hid hcn
                have hcc : wr.cell? ⟨gL, m, none⟩ = some (.int .i64 (c : Int)) := by have := OL.out.rd.intAt (ints_get hc); simpa using this
                obtain ⟨u, hu⟩ : ∃ u, isF (T c) (s0 + (j : Int)) = u := ⟨_, rfl⟩
                have RI := Lib.hid (refIs_any ((RW.out.no LV.out.kp).no QB.out.kp) HT.out c (s0 + (j : Int)) u hu)
                have HU := Lib.hid (show isF (T c) (s0 + ((k + 1 : Nat) : Int)) = u by rw [← hu, HJ.out])
                clear hc hcn hu hlt
                go_wp2_with fail
                refine RI.out.mono ?_
                rintro e w8 ⟨rfl, k8⟩
                have Q8 := Lib.hid (QB.out.no k8)
                have O8 := Lib.hid (OL.out.kpNo k8)
                clear k8 hcc RI
                have hcc : w8.cell? ⟨gL, m, none⟩ = some (.int .i64 (c : Int)) := by have := O8.out.rd.intAt (ints_get HC.out); simpa using this
                cases u with
                | true =>
                  obtain ⟨b1, hb1⟩ : ∃ b, (lvB n (NxM T st fr s0 k i m))[c]? = some b := ⟨_, lvB_get HCN.out⟩
                  have hcg := Q8.out.d.get hb1
                  have hcf := Q8.out.d.free c
                  have Q9 := Lib.hid (show QbW wB gN (lvB n (NxM T st fr s0 k i (m + 1))) _ by rw [← nx_hit HCN.out HC.out HU.out]; exact Q8.out.set c true)
                  have O9 := Lib.hid (O8.out.kp ((Kp.refl (fun b => b = gN) w8).setCell (p := ⟨gN, c, none⟩) (fun _ => rfl) (.bool true)) (fun g hg e => GL.out g hg e))
                  clear hb1
                  go_wp2_with fail
                  go_roundg (nL + 1 - (m + 1))
                  case measure => omega
                  case rel => exact ⟨m + 1, rfl, by go_num, by omega, Q9.out, O9.out⟩
                | false =>
                  have Q9 := Lib.hid (show QbW wB gN (lvB n (NxM T st fr s0 k i (m + 1))) w8 by rw [nx_miss HC.out HU.out]; exact Q8.out)
                  go_wp2_with fail
                  go_roundg (nL + 1 - (m + 1))
                  case measure => omega
                  case rel => exact ⟨m + 1, rfl, by go_num, by omega, Q9.out, O8.out⟩
              · obtain rfl : m = nL := by omega
                have hd0 : ¬ (m : Int) < (m : Int) := by omega
                have Q2 := Lib.hid (show QbW wB gN (lvB n (NxJ T st fr s0 k (i + 1))) wr by rw [← nx_out HRI.out HNL.out]; exact QB.out)
                clear hlt
                go_wp2_with fail
                go_roundg (n + 1 - (i + 1))
                case measure => have := HIN.out; omega
                case rel => exact ⟨i + 1, rfl, by go_num, by have := HIN.out; omega, Q2.out⟩
        · obtain rfl : i = n := by omega
          have hd0 : ¬ (i : Int) < (i : Int) := by omega
          have Q2 := Lib.hid (show QbW wB gN (lvB i (Rch T st fr s0 (k + 1))) wr by rw [← nx_done (RLT.out k)]; exact QB.out)
          have L2 := Lib.hid (LV.out.no Q2.out.kp)
          have O2 := Lib.hid (show Own SvK 34 wr (.slice (some ⟨ga, 0, none⟩) j qa) Ls by rw [HJ.out]; exact L2.out.own)
          clear hlt
          go_wp2_with (at_builtin; refine wpl_append elBs rfl (.tmp 114) (.tmp 116) rfl rfl rfl (v := .slice (some ⟨ga, 0, none⟩) j qa) (l := Ls) (m := [(some ⟨gN, 0, none⟩, i, i)]) (O2.out.alloc _) (Rd.litAt SvK 34 _ _ [(some ⟨gN, 0, none⟩, i, i)] rfl (by unfold maxLen; simp) _ _ rfl rfl) (by rw [L2.out.len]; unfold maxLen; simp; omega) (by rw [L2.out.len]; simp; omega) ?_; intro V5 w5 m1 m2 m3; have L3 := Lib.hid (LV.out.app Q2.out m1 m2 m3); obtain ⟨A5, q5, rfl⟩ := m1.rd.shape; rw [List.length_append, L2.out.len, List.length_singleton] at L3 ⊢; clear m1 m2 m3)
          go_roundg (A + 1 - (k + 1))
          case measure => have := HKA.out; omega
          case rel => exact ⟨k + 1, gN, _, _, _, rfl, rfl, by (first | rfl | rw [L2.out.len]), by rw [HJ.out]; go_num, by have := HKA.out; omega, by (have h := L3.out; first | exact h | (rw [L2.out.len] at h; exact h)), by rw [List.getElem?_append_right (by rw [L2.out.len]; omega), L2.out.len]; simp⟩
    · obtain rfl : k = A := by omega
      have hd0 : ¬ ((k + 1 : Nat) : Int) ≤ (k : Int) := by omega
      clear hlt hj
      go_wp2_with fail
      go_ret
      have LF := Lib.hid (show LvW (Rch T st fr s0) n w k (.slice (some ⟨ga, 0, none⟩) (k + 1) qa) Ls wr from ⟨LV.out.own, fun g hg => by have := LV.out.ge g hg; have := K1.out.size; omega, LV.out.len, fun i x hx => let ⟨g, a, b, c, d⟩ := LV.out.lv i x hx; ⟨g, a, b, by have := K1.out.size; omega, d⟩, K1.out.no LV.out.kp⟩)
      first | exact ⟨_, rfl, _, LF.out⟩ | exact ⟨_, rfl, Ls, LF.out⟩ | exact ⟨_, _, rfl, LF.out⟩ | exact ⟨_, Ls, rfl, LF.out⟩
end Go.Proofs.YtgdokpfepfmbmaaDoor

namespace Go.Proofs.YtgdokpfepfmbmaaDoor
set_option linter.unusedVariables false
set_option linter.unusedSimpArgs false
open Go.RowKit

set_option maxHeartbeats 2000000 in
set_option maxRecDepth 100000 in
theorem reach_no {f : Flr} {n : Nat} {M : MpC} {Vs : List SlC} {t : Value} {w : World} (h : MpW f n M Vs w) (hn : n ≤ 1000) (fr s0 ah : Int) (hno : ¬ (spOk f fr s0 = true ∧ 0 ≤ ah ∧ ah ≤ 1024)) :
    Calls Tryd.prog 42 #[M.val n, t, .int .i64 fr, .int .i64 s0, .int .i64 ah] w fun e w' => e = .returned (.slice none 0 0) ∧ Kp No w w' := by
  obtain ⟨w1, hw1⟩ : ∃ w1, w1 = w.alloc (.cells #[.slice M.A1 n M.q1, .slice M.A2 n M.q2, .slice M.A3 n M.q3] 36) := ⟨_, rfl⟩
  have K1 := Lib.hid (show Kp No w w1 by rw [hw1]; exact (Kp.refl _ _).alloc _)
  have BX : w1.heap[w.heap.size]? = some (.cells #[.slice M.A1 n M.q1, .slice M.A2 n M.q2, .slice M.A3 n M.q3] 36 (0, 0)) := by rw [hw1]; exact blk_new w _
  have HW1 := Lib.hid hw1
  have hop := (h.no K1.out).op
  have hnm := h.hn
  have hb2 : w1.cell? ⟨w.heap.size, 2, none⟩ = some (.slice M.A3 n M.q3) := blk_cell BX 2
  obtain ⟨A1, q1, A2, q2, A3, q3⟩ := M
  unfold MpC.val
  simp only at hb2 HW1 hop ⊢
  clear hw1 h BX
  by_cases c1 : fr < 0
  · clear hno hop hnm
    go_enter Tryd.func42, Tryd.ntmps42
    go_upto_region 1 with fail
    rw [← HW1.out]
    go_wp2_with fail
    go_ret
    exact ⟨rfl, K1.out⟩
  by_cases c2 : (n : Int) ≤ fr
  · clear hno hop hnm
    go_enter Tryd.func42, Tryd.ntmps42
    go_upto_region 1 with fail
    rw [← HW1.out]
    go_wp2_with fail
    go_ret
    exact ⟨rfl, K1.out⟩
  obtain ⟨k, rfl⟩ : ∃ k : Nat, fr = k := ⟨fr.toNat, by omega⟩
  have hk : k < n := by omega
  have hkI : (k : Int) < (n : Int) := by omega
  obtain ⟨g3, o3, hA3⟩ := hop.some_ (by omega)
  rw [hA3] at hop
  obtain ⟨ob, hob⟩ : ∃ b, (bt f.s k != 35) = b := ⟨_, rfl⟩
  have hcop : w1.cell? ⟨g3, o3 + k, none⟩ = some (.bool ob) := by rw [hop.one BoK1 (opL_get (f := f) hk), hob]
  have hr : rightB f = true := by
    cases hr : rightB f with
    | true => rfl
    | false => rw [hnm] at hk; unfold mpN at hk; rw [hr] at hk; simp at hk
  have hsz : n = f.s.size := by rw [hnm]; unfold mpN; rw [if_pos hr]
  have hpt : ptOk f (k : Int) = ob := by
    unfold ptOk
    rw [hr, Int.toNat_natCast, hob]
    have : ((k : Int) < (f.s.size : Int)) := by omega
    simp [this]
  have HNO : ob = true → 0 ≤ s0 → s0 < 1048576 → 0 ≤ ah → ¬ ah ≤ 1024 := fun e a b c d => hno ⟨by unfold spOk; rw [hpt, e]; simp [a, b], c, d⟩
  subst hA3
  clear hno hop hnm hr hsz hpt hob
  cases ob with
  | false =>
    clear HNO
    go_enter Tryd.func42, Tryd.ntmps42
    go_upto_region 1 with fail
    rw [← HW1.out]
    go_wp2_with fail
    go_ret
    exact ⟨rfl, K1.out⟩
  | true =>
    by_cases c4 : s0 < 0
    · clear HNO
      go_enter Tryd.func42, Tryd.ntmps42
      go_upto_region 1 with fail
      rw [← HW1.out]
      go_wp2_with fail
      go_ret
      exact ⟨rfl, K1.out⟩
    by_cases c5 : (1048576 : Int) ≤ s0
    · clear HNO
      go_enter Tryd.func42, Tryd.ntmps42
      go_upto_region 1 with fail
      rw [← HW1.out]
      go_wp2_with fail
      go_ret
      exact ⟨rfl, K1.out⟩
    by_cases c6 : ah < 0
    · clear HNO
      go_enter Tryd.func42, Tryd.ntmps42
      go_upto_region 1 with fail
      rw [← HW1.out]
      go_wp2_with fail
      go_ret
      exact ⟨rfl, K1.out⟩
    have c7 : (1024 : Int) < ah := by have := HNO rfl (by omega) (by omega) (by omega); omega
    clear HNO
    go_enter Tryd.func42, Tryd.ntmps42
    go_upto_region 1 with fail
    rw [← HW1.out]
    go_wp2_with fail
    go_ret
    exact ⟨rfl, K1.out⟩
end Go.Proofs.YtgdokpfepfmbmaaDoor

namespace Go.Proofs.YtgdokpfepfmbmaaDoor
set_option linter.unusedVariables false
set_option linter.unusedSimpArgs false
open Go.RowKit

section
variable {T : Int → List (Int × Int)} {st : Nat → List Nat} {fr A k c : Nat} {s0 v : Int}
/-- What the search from above holds, the levels from k on seen. -/
def FsD (T : Int → List (Int × Int)) (st : Nat → List Nat) (fr : Nat) (s0 : Int) (A k c : Nat) (v : Int) : Prop := (v = -1 ∧ ∀ i : Nat, k ≤ i → i ≤ A → ¬ Rch T st fr s0 i c) ∨ ∃ i : Nat, k ≤ i ∧ i ≤ A ∧ v = s0 + i ∧ Rch T st fr s0 i c ∧ ∀ j : Nat, k ≤ j → Rch T st fr s0 j c → i ≤ j
theorem fsd_top : FsD T st fr s0 A (A + 1) c (-1) := .inl ⟨rfl, fun i h1 h2 => by omega⟩
theorem fsd_hit (hk : k ≤ A) (h : Rch T st fr s0 k c) : FsD T st fr s0 A k c (s0 + k) := .inr ⟨k, Nat.le_refl _, hk, rfl, h, fun j hj _ => hj⟩
theorem fsd_miss (hn : ¬ Rch T st fr s0 k c) (h : FsD T st fr s0 A (k + 1) c v) : FsD T st fr s0 A k c v := by
  have aux : ∀ j : Nat, k ≤ j → Rch T st fr s0 j c → k + 1 ≤ j := fun j hj hr => by
    have : j ≠ k := fun e => hn (e ▸ hr)
    omega
  rcases h with ⟨e, h⟩ | ⟨i, h1, h2, e, h3, h4⟩
  · exact .inl ⟨e, fun i hi hA hr => h i (aux i hi hr) hA hr⟩
  · exact .inr ⟨i, by omega, h2, e, h3, fun j hj hr => h4 j (aux j hj hr) hr⟩
theorem fsd_zero (h : FsD T st fr s0 A 0 c v) : v = sn T st fr s0 A c := by
  refine IsSn.uniq (T := T) (st := st) (fr := fr) (s0 := s0) (A := A) (c := c) ?_ (sn_is _ _ _ _ _ _)
  rcases h with ⟨e, h⟩ | ⟨i, _, h2, e, h3, h4⟩
  · exact .inl ⟨e, fun i hi => h i (Nat.zero_le _) hi⟩
  · exact .inr ⟨i, h2, e, h3, fun j hr => h4 j (Nat.zero_le _) hr⟩
end
end Go.Proofs.YtgdokpfepfmbmaaDoor

namespace Go.Proofs.YtgdokpfepfmbmaaDoor
set_option linter.unusedVariables false
set_option linter.unusedSimpArgs false
open Go.RowKit

set_option maxHeartbeats 2000000 in
set_option maxRecDepth 100000 in
theorem r7Soon_ok {f : Flr} {n : Nat} {M : MpC} {Vs : List SlC} {br : Nat} {T : Int → List (Int × Int)} {w : World} (h : MpW f n M Vs w) (hn : n ≤ 1000) (hR : RefW w br T) (hT : WFT T) (fr : Nat) (s0 : Int) (A : Nat) (hA : A ≤ 1024) (hok : spOk f fr s0 = true) :
    Calls Tryd.prog 18 #[M.val n, .pointer (some ⟨br, 0, none⟩), .int .i64 (fr : Int), .int .i64 s0, .int .i64 (A : Int)] w fun e w' => ∃ v, e = .returned v ∧ NewS IK 3 w w' v (snL T (stepsP f fr []) fr s0 A n) := by
  obtain ⟨w1, hw1⟩ : ∃ w1, w1 = w.alloc (.cells #[.slice M.A1 n M.q1, .slice M.A2 n M.q2, .slice M.A3 n M.q3] 36) := ⟨_, rfl⟩
  have K1 := Lib.hid (show Kp No w w1 by rw [hw1]; exact (Kp.refl _ _).alloc _)
  have BX := Lib.hid (show w1.heap[w.heap.size]? = some (.cells #[.slice M.A1 n M.q1, .slice M.A2 n M.q2, .slice M.A3 n M.q3] 36 (0, 0)) by rw [hw1]; exact blk_new w _)
  have HW1 := Lib.hid hw1
  clear hw1
  have lb : ∀ wx, Kp No w1 wx → wx.cell? ⟨w.heap.size, 0, none⟩ = some (.slice M.A1 n M.q1) ∧ wx.cell? ⟨w.heap.size, 1, none⟩ = some (.slice M.A2 n M.q2) ∧ wx.cell? ⟨w.heap.size, 2, none⟩ = some (.slice M.A3 n M.q3) := fun wx hk => by
    have := hk.blk BX.out (no_no _)
    exact ⟨blk_cell this 0, blk_cell this 1, blk_cell this 2⟩
  have LB := Lib.hid lb
  clear lb
  have RO := Lib.hid (reach_ok (h.no K1.out) hn (hR.no K1.out) hT fr s0 A hA hok)
  have hs : 0 ≤ s0 ∧ s0 < 1048576 := by
    unfold spOk at hok; simp only [Bool.and_eq_true, decide_eq_true_eq] at hok; exact ⟨hok.1.2, hok.2⟩
  obtain ⟨hs0, hs1⟩ := hs
  obtain ⟨st, hst⟩ : ∃ st, st = stepsP f fr [] := ⟨_, rfl⟩
  rw [← hst] at RO ⊢
  obtain ⟨N, hN⟩ : ∃ N, N = snL T st fr s0 A n := ⟨_, rfl⟩
  rw [← hN]
  have HE := Lib.hid hN
  have HNL := Lib.hid (show N.length = n by rw [hN, snL_len])
  obtain ⟨hb0, hb1, hb2⟩ := LB.out w1 (Kp.refl _ _)
  obtain ⟨A1, q1, A2, q2, A3, q3⟩ := M
  unfold MpC.val at RO ⊢
  simp only at hb0 hb1 hb2 RO LB HW1 ⊢
  clear hok h hR hT BX hst hN
  go_enter Tryd.func18, Tryd.ntmps18
  go_upto_region 1 with fail
  rw [← HW1.out]
  go_wp2_with fail
  refine RO.out.mono ?_
  rintro e w2 ⟨av, Ls, rfl, lv⟩
  have hll := lv.len
  rcases lv.own.b with ⟨hv, he⟩ | ⟨ga, qa, hv, _, _, _⟩
  · rw [he] at hll; simp at hll
  rw [hll] at hv
  subst hv
  have LV := Lib.hid lv
  have GC := Lib.hid (fun wx (hk : Kp No w2 wx) (i : Nat) (hi : i ≤ A) => show ∃ g, wx.cell? ⟨ga, i, none⟩ = some (.slice (some ⟨g, 0, none⟩) n n) ∧ Blk Value.bool 4 wx g (lvB n (Rch T st fr s0 i)) from by
    have L2 := LV.out.no hk
    obtain ⟨x, hx⟩ : ∃ x, Ls[i]? = some x := ⟨_, List.getElem?_eq_getElem (by rw [L2.len]; omega)⟩
    obtain ⟨g, e, b, _, _⟩ := L2.lv i x hx
    refine ⟨g, ?_, b⟩
    have := L2.own.rd.one SvK1 hx
    rw [Nat.zero_add] at this
    rw [this, e]; rfl)
  have K2 := Lib.hid lv.kp
  clear hb0 hb1 hb2 lv hll RO
  have hne : (((A + 1 : Nat) : Int) == 0) = false := by simp; omega
  have hwm : IntKind.i64.wrap (((A + 1 : Nat) : Int) - 1) = (A : Int) := by rw [IntWalk.i64_in _ (by omega)]; omega
  obtain ⟨a1, ha1⟩ : ∃ a, a = A + 1 := ⟨_, rfl⟩
  rw [← ha1] at hne hwm ⊢
  have HA1 := Lib.hid ha1
  clear ha1
  go_wp2_with fail
  go_loopg [12, 13] (n + 1) (fun g_ ov iv wx => ∃ i : Nat, g_ = n + 1 - i ∧ iv = .int .i64 i ∧ i ≤ n ∧ NewS IK 3 w2 wx ov (N.take i))
  case atStart => exact ⟨0, rfl, rfl, by omega, by simpa using NewS.nil IK 3 w2⟩
  case round =>
    obtain ⟨i, hg, rfl, hi, ns⟩ := hrel
    have NS := Lib.hid ns
    obtain ⟨Ao, qo, hov⟩ := ns.own.rd.shape
    rw [List.length_take, HNL.out, Nat.min_eq_left hi] at hov
    subst hov
    clear ns
    obtain ⟨hb0, hb1, hb2⟩ := LB.out wr (K2.out.no NS.out.kp)
    by_cases hlt : i < n
    · have hltI : (i : Int) < (n : Int) := by omega
      have hwi : IntKind.i64.wrap ((i : Int) + 1) = (i : Int) + 1 := IntWalk.i64_in _ (by omega)
      have HIN := Lib.hid hlt
      have HTK := Lib.hid (show N.take (i + 1) = N.take i ++ [sn T st fr s0 A i] by rw [HE.out, snL_take hlt])
      have HLT := Lib.hid (show (N.take i).length = i by rw [List.length_take, HNL.out, Nat.min_eq_left hi])
      clear hlt
      go_wp2_with fail
      clear hb0 hb1 hb2
      obtain ⟨wB, hwB⟩ : ∃ x : World, x = wr := ⟨_, rfl⟩
      rw [← hwB] at NS
      have WB := Lib.hid (show Kp No wB wr by rw [hwB]; exact Kp.refl _ _)
      clear hwB
      go_loopg [14, 15] (A + 2) (fun g_ fv nv wx => ∃ (k : Nat) (v : Int), g_ = k + 1 ∧ fv = .int .i64 v ∧ nv = .int .i64 ((k : Int) - 1) ∧ k ≤ A + 1 ∧ FsD T st fr s0 A k i v ∧ Kp No wB wx)
      case atStart => exact ⟨A + 1, _, rfl, rfl, by go_num, by omega, fsd_top, WB.out⟩
      case round =>
        clear WB
        obtain ⟨k, v, hgk, rfl, rfl, hk, fd, kp⟩ := hrel
        have FD := Lib.hid fd; have KP := Lib.hid kp
        clear fd kp
        by_cases h0 : k = 0
        · subst h0
          have hd0 : ¬ ((0 : Nat) : Int) - 1 ≥ 0 := by omega
          have hv := fsd_zero FD.out
          have HTK2 := Lib.hid (show N.take (i + 1) = N.take i ++ [v] by rw [hv]; exact HTK.out)
          have NS4 := Lib.hid (NS.out.kpNo KP.out)
          clear hv
          go_wp2_with (at_builtin; refine wpl_append elI rfl (.tmp 49) (.tmp 51) rfl rfl rfl (v := .slice Ao i qo) (l := N.take i) (m := [v]) ?c1 ?c2 ?c3 ?c4 ?c5)
          case c1 => exact NS4.out.own.alloc _
          case c2 => exact Rd.litAt IK 3 _ _ [v] rfl (by unfold maxLen; simp) _ _ rfl rfl
          case c3 => have := HIN.out; unfold maxLen; first | omega | (simp; omega)
          case c4 => have := HIN.out; first | omega | (simp; omega)
          case c5 =>
            intro v' w' k1 k2 k3
            rw [← HTK2.out] at k1
            have n5 := NS4.out.app ((Kp.refl No wr).alloc (.cells #[.int .i64 v] 3)) k1 k2 k3 (by simp)
            have N5 := Lib.hid n5
            clear k1 k2 k3 n5
            go_wp2_with fail
            go_roundg (n + 1 - (i + 1))
            case measure => have := HIN.out; omega
            case rel => exact ⟨i + 1, rfl, by go_num, by have := HIN.out; omega, N5.out⟩
        · obtain ⟨m, rfl⟩ : ∃ m, k = m + 1 := ⟨k - 1, by omega⟩
          have hd0 : (m : Int) ≥ 0 := by omega
          have hmA : m ≤ A := by omega
          have hma : (m : Int) < (a1 : Int) := by have := HA1.out; omega
          have hwd : IntKind.i64.wrap ((m : Int) - 1) = (m : Int) - 1 := IntWalk.i64_in _ (by omega)
          have hws : IntKind.i64.wrap (s0 + (m : Int)) = s0 + (m : Int) := IntWalk.i64_in _ (by omega)
          have hinI : (i : Int) < (n : Int) := by have := HIN.out; omega
          rw [show ((m + 1 : Nat) : Int) - 1 = (m : Int) by omega]
          obtain ⟨g, hcg, hbk⟩ := GC.out wr (NS.out.kp.no KP.out) m hmA
          obtain ⟨b, hb⟩ : ∃ b, (lvB n (Rch T st fr s0 m))[i]? = some b := ⟨_, lvB_get HIN.out⟩
          have hcb := hbk.get hb
          have HB := Lib.hid (lvB_iff hb).2
          clear hb hbk
          cases b with
          | true =>
            go_wp2_with fail
            go_roundg (m + 1)
            case measure => omega
            case rel => exact ⟨m, _, rfl, rfl, rfl, by omega, fsd_hit hmA (by first | exact HB.out.1 trivial | exact HB.out.1 rfl), KP.out⟩
          | false =>
            go_wp2_with fail
            go_roundg (m + 1)
            case measure => omega
            case rel => exact ⟨m, _, rfl, rfl, rfl, by omega, fsd_miss (fun e => by have := HB.out.2 e; cases this) FD.out, KP.out⟩
    · obtain rfl : i = n := by omega
      have hd0 : ¬ (i : Int) < (i : Int) := by omega
      have HTE := Lib.hid (show N.take i = N by rw [← HNL.out, List.take_length])
      clear hlt
      go_wp2_with fail
      go_ret
      exact ⟨_, rfl, by have h := NS.out; rw [HTE.out] at h; exact ⟨h.own, fun g hg => by have := h.ge g hg; have := K2.out.size; have := K1.out.size; omega, (K1.out.no K2.out).no h.kp⟩⟩
end Go.Proofs.YtgdokpfepfmbmaaDoor

namespace Go.Proofs.YtgdokpfepfmbmaaDoor
set_option linter.unusedVariables false
set_option linter.unusedSimpArgs false
open Go.RowKit

set_option maxHeartbeats 2000000 in
set_option maxRecDepth 100000 in
theorem r7Soon_no {f : Flr} {n : Nat} {M : MpC} {Vs : List SlC} {t : Value} {w : World} (h : MpW f n M Vs w) (hn : n ≤ 1000) (fr s0 ah : Int) (hno : ¬ (spOk f fr s0 = true ∧ 0 ≤ ah ∧ ah ≤ 1024)) :
    Calls Tryd.prog 18 #[M.val n, t, .int .i64 fr, .int .i64 s0, .int .i64 ah] w fun e w' => e = .returned (.slice none 0 0) ∧ Kp No w w' := by
  obtain ⟨w1, hw1⟩ : ∃ w1, w1 = w.alloc (.cells #[.slice M.A1 n M.q1, .slice M.A2 n M.q2, .slice M.A3 n M.q3] 36) := ⟨_, rfl⟩
  have K1 := Lib.hid (show Kp No w w1 by rw [hw1]; exact (Kp.refl _ _).alloc _)
  have BX : w1.heap[w.heap.size]? = some (.cells #[.slice M.A1 n M.q1, .slice M.A2 n M.q2, .slice M.A3 n M.q3] 36 (0, 0)) := by rw [hw1]; exact blk_new w _
  have HW1 := Lib.hid hw1
  have hb0 : w1.cell? ⟨w.heap.size, 0, none⟩ = some (.slice M.A1 n M.q1) := blk_cell BX 0
  have hb1 : w1.cell? ⟨w.heap.size, 1, none⟩ = some (.slice M.A2 n M.q2) := blk_cell BX 1
  have hb2 : w1.cell? ⟨w.heap.size, 2, none⟩ = some (.slice M.A3 n M.q3) := blk_cell BX 2
  have RN := Lib.hid (reach_no (t := t) (h.no K1.out) hn fr s0 ah hno)
  obtain ⟨A1, q1, A2, q2, A3, q3⟩ := M
  unfold MpC.val at RN ⊢
  simp only at hb0 hb1 hb2 HW1 RN ⊢
  clear hw1 h BX hno
  go_enter Tryd.func18, Tryd.ntmps18
  go_upto_region 1 with fail
  rw [← HW1.out]
  go_wp2_with fail
  refine RN.out.mono ?_
  rintro e w2 ⟨rfl, k2⟩
  have K2 := Lib.hid (K1.out.no k2)
  clear k2
  go_wp2_with fail
  go_ret
  exact ⟨rfl, K2.out⟩
theorem r7Soon_any {f : Flr} {n : Nat} {M : MpC} {Vs : List SlC} {br : Nat} {T : Int → List (Int × Int)} {w : World} (h : MpW f n M Vs w) (hR : RefW w br T) (hT : WFT T) (fr s0 ah : Int) :
    Calls Tryd.prog 18 #[M.val n, .pointer (some ⟨br, 0, none⟩), .int .i64 fr, .int .i64 s0, .int .i64 ah] w fun e w' => ∃ v, e = .returned v ∧ NewS IK 3 w w' v (soonP f T fr s0 ah) := by
  have hn : n ≤ 1000 := by
    rw [h.hn]; unfold mpN
    split
    · rename_i hr; have := (rightB_iff.1 hr).s256; omega
    · omega
  by_cases hc : spOk f fr s0 = true ∧ 0 ≤ ah ∧ ah ≤ 1024
  · obtain ⟨hok, h0, h1⟩ := hc
    have hpt : ptOk f fr = true := by unfold spOk at hok; simp only [Bool.and_eq_true] at hok; exact hok.1.1
    obtain ⟨k, rfl, _, hr⟩ := ptOk_nat hpt
    obtain ⟨A, rfl⟩ : ∃ A : Nat, ah = A := ⟨ah.toNat, by omega⟩
    have hnf : n = f.s.size := by rw [h.hn]; unfold mpN; rw [if_pos (rightB_iff.2 hr)]
    have e : soonP f T (k : Int) s0 (A : Int) = snL T (stepsP f k []) k s0 A n := by
      unfold soonP
      rw [if_pos ⟨hok, by simp; omega⟩, hnf, Int.toNat_natCast, Int.toNat_natCast]
    rw [e]
    exact r7Soon_ok h hn hR hT k s0 A (by omega) hok
  · have e : soonP f T fr s0 ah = [] := by
      unfold soonP
      rw [if_neg]
      rintro ⟨a, b⟩
      simp only [Bool.and_eq_true, decide_eq_true_eq] at b
      exact hc ⟨a, b⟩
    rw [e]
    refine (r7Soon_no h hn fr s0 ah hc).mono ?_
    rintro e w1 ⟨rfl, k1⟩
    exact ⟨_, rfl, Own.nil _ _ _, by simp [Value.ownBlock], k1⟩
end Go.Proofs.YtgdokpfepfmbmaaDoor

namespace Go.Proofs.YtgdokpfepfmbmaaDoor
set_option linter.unusedVariables false
set_option linter.unusedSimpArgs false
open Go.RowKit

/-- A value whose block is none of F. -/
def Apt (v : Value) (F : Nat → Prop) (w : World) : Prop := ∀ g, v.ownBlock = some g → ¬ F g ∧ g < w.heap.size
theorem tab_apt {bt : Nat} {T T' : Int → List (Int × Int)} {F F' : Nat → Prop} {w w' : World} (hk : Kp F w w') (hf : ∀ k, F' k → F k ∨ w.heap.size ≤ k) {α : Type} {K : Kd α} {v : Value} {l : List α} (h : Rd K w v l) (a : Apt v F w) : Rd K w' v l ∧ Apt v F' w' :=
  ⟨h.kp hk fun g hg => (a g hg).1, fun g hg => ⟨fun e => by
    rcases hf g e with e | e
    · exact (a g hg).1 e
    · have := (a g hg).2; omega, Nat.lt_of_lt_of_le (a g hg).2 hk.size⟩⟩
theorem Apt.no {v : Value} {F : Nat → Prop} {w w' : World} (a : Apt v F w) (hk : Kp No w w') : Apt v F w' := fun g hg => ⟨(a g hg).1, Nat.lt_of_lt_of_le (a g hg).2 hk.size⟩
theorem NewS.apt {α : Type} {K : Kd α} {el : TypeId} {bt : Nat} {T : Int → List (Int × Int)} {F : Nat → Prop} {w w' : World} {v : Value} {l : List α} (n : NewS K el w w' v l) (r : RepT w bt T F) : Apt v F w' := fun g hg => ⟨fun e => by have := r.lt.2 g e; have := n.ge g hg; omega, n.own.lt hg⟩
theorem lenG : fG.s.size = 5 := rfl
/-- The plan in shown, made. -/
theorem planG {T : Int → List (Int × Int)} {P : List (Int × Int)} (hT : WFT T) (hW : ∀ c : Nat, c < 5 → (freeL (T (c : Int))).length ≤ 10) (hP : planR fG T 0 0 3 20 = (P, 0)) (bt : Nat) (F : Nat → Prop) (w : World) (h : RepT w bt T F) : Calls Tryd.prog 20 #[fG.val, .pointer (some ⟨bt, 0, none⟩), .int .i64 0, .int .i64 0, .int .i64 3, .int .i64 20] w (PlR (P, 0) w) := by
  have := spPlan_any fG (by decide) hT (W := 10) (by omega) hW 0 0 3 20 (by omega) bt h
  rwa [hP] at this
set_option maxHeartbeats 2000000 in
set_option maxRecDepth 100000 in
theorem shown07_any (w : World) : Calls Tryd.prog 12 #[] w fun e w' => e = .returned (.bool true) ∧ Kp No w w' := by
  have hpS := Lib.hid (parse_at _ (by decide) _ parse_G (.tuple #[.agg #[.int .i64 5, .int .i64 1, .string fG.s], .int .i64 0, .int .i64 0]) rfl)
  have PA := Lib.hid (@planG _ _ WFT.nil fl_G.1 plan_a)
  have PB := Lib.hid (@planG _ _ wf_G1 fl_G.2.1 plan_b)
  have PC := Lib.hid (@planG _ _ wf_G2 fl_G.2.2 plan_c)
  unfold Flr.val at PA PB PC
  simp only [fG] at hpS
  obtain ⟨S, hS⟩ : ∃ S, S = fG.s := ⟨_, rfl⟩
  have e1 : fG.W = 5 := rfl
  have e2 : fG.H = 1 := rfl
  rw [e1, e2, ← hS] at PA PB PC
  rw [show (⟨#[48, 97, 97, 98, 49]⟩ : ByteArray) = S from hS.symm] at hpS
  clear hS
  go_enter Tryd.func12, Tryd.ntmps12
  go_wp2_with fail
  refine (hpS.out _).mono ?_
  rintro e w1 ⟨rfl, k1⟩
  have K1 := Lib.hid (k1.alloc (.cells #[.int .i64 5, .int .i64 1, .string S] 23))
  obtain ⟨b1, hb1⟩ : ∃ b1, b1 = w1.heap.size := ⟨_, rfl⟩
  obtain ⟨w2, hw2⟩ : ∃ w2, w2 = w1.alloc (.cells #[.int .i64 5, .int .i64 1, .string S] 23) := ⟨_, rfl⟩
  have BX := Lib.hid (show w2.heap[b1]? = some (.cells #[.int .i64 5, .int .i64 1, .string S] 23 (0, 0)) by rw [hw2, hb1]; exact blk_new w1 _)
  rw [← hw2] at K1
  have HW2 := Lib.hid hw2; have HB1 := Lib.hid hb1
  clear k1 hw2 hb1
  have lb : ∀ wx : World, wx.heap[b1]? = some (.cells #[.int .i64 5, .int .i64 1, .string S] 23 (0, 0)) → wx.cell? ⟨b1, 0, none⟩ = some (.int .i64 5) ∧ wx.cell? ⟨b1, 1, none⟩ = some (.int .i64 1) ∧ wx.cell? ⟨b1, 2, none⟩ = some (.string S) := fun wx this =>
    ⟨blk_cell this 0, blk_cell this 1, blk_cell this 2⟩
  have LB := Lib.hid lb
  clear lb
  go_upto_region 2 with fail
  rw [← HW2.out, ← HB1.out]
  go_wp2_with fail
  refine (new_any _).mono ?_
  rintro e w3 ⟨bt, F0, rfl, r3, k3, gt, gF⟩
  have R3 := Lib.hid r3; have B3 := Lib.hid (k3.blk BX.out (no_no _)); have K3 := Lib.hid (K1.out.no k3)
  have NB := Lib.hid (show ¬ F0 b1 from fun e => by have := gF _ e; have := lt_of_block BX.out; omega)
  have GF := Lib.hid (show ∀ k, F0 k → w.heap.size ≤ k from fun k e => by have := gF _ e; have := K1.out.size; omega)
  clear r3 k3 gt gF
  obtain ⟨hc0, hc1, hc2⟩ := LB.out _ B3.out
  go_wp2_with fail
  refine (PA.out _ _ _ R3.out).mono ?_
  rintro e w4 ⟨A1, q1, rfl, n4⟩
  have RA := Lib.hid n4.own.rd; have AA := Lib.hid (n4.apt R3.out); have R4 := Lib.hid (R3.out.kpNo n4.kp)
  have B4 := Lib.hid (n4.kp.blk B3.out (no_no _)); have K4 := Lib.hid (K3.out.no n4.kp)
  clear n4 hc0 hc1 hc2
  go_wp2_with fail
  refine (take_any R4.out WFT.nil 2 2 5).mono ?_
  rintro e w5 ⟨rfl, F1, r5, k5, f5⟩
  obtain ⟨RA5, AA5⟩ := tab_apt (bt := bt) (T := fun _ => []) (T' := fun _ => []) k5 f5 RA.out AA.out
  have RA5 := Lib.hid RA5; have AA5 := Lib.hid AA5
  have R5 := Lib.hid (show RepT w5 bt TG1 F1 from r5)
  have B5 := Lib.hid (k5.blk B4.out NB.out)
  have NB5 := Lib.hid (show ¬ F1 b1 from fun e => by
    rcases f5 _ e with e | e
    · exact NB.out e
    · have := lt_of_block B4.out; omega)
  have K5 := Lib.hid (show Kp No w w5 from K4.out.trans' k5 fun j hj e => by have := GF.out j e; omega)
  have GF5 := Lib.hid (show ∀ k, F1 k → w.heap.size ≤ k from fun k e => by
    rcases f5 _ e with e | e
    · exact GF.out _ e
    · have := K4.out.size; omega)
  have hE : takeE ((fun _ => [] : Int → List (Int × Int)) 2) 2 5 = 0 := tg_all.1.symm
  rw [hE]
  clear r5 k5 f5 hE RA AA
  obtain ⟨hc0, hc1, hc2⟩ := LB.out _ B5.out
  go_wp2_with fail
  refine (PB.out _ _ _ R5.out).mono ?_
  rintro e w6 ⟨A2, q2, rfl, n6⟩
  have RA6 := Lib.hid (RA5.out.kpNo n6.kp); have AA6 := Lib.hid (AA5.out.no n6.kp)
  have RB6 := Lib.hid n6.own.rd; have AB6 := Lib.hid (n6.apt R5.out); have R6 := Lib.hid (R5.out.kpNo n6.kp)
  have B6 := Lib.hid (n6.kp.blk B5.out (no_no _)); have K6 := Lib.hid (K5.out.no n6.kp)
  clear n6 hc0 hc1 hc2
  go_wp2_with fail
  refine (take_any R6.out wf_G1 1 4 9).mono ?_
  rintro e w7 ⟨rfl, F2, r7, k7, f7⟩
  obtain ⟨RA7, _⟩ := tab_apt (bt := bt) (T := fun _ => []) (T' := fun _ => []) k7 f7 RA6.out AA6.out
  obtain ⟨RB7, _⟩ := tab_apt (bt := bt) (T := fun _ => []) (T' := fun _ => []) k7 f7 RB6.out AB6.out
  have RA7 := Lib.hid RA7; have RB7 := Lib.hid RB7
  have R7 := Lib.hid (show RepT w7 bt TG2 F2 from r7)
  have B7 := Lib.hid (k7.blk B6.out NB5.out)
  have K7 := Lib.hid (show Kp No w w7 from K6.out.trans' k7 fun j hj e => by have := GF5.out j e; omega)
  have hE : takeE (TG1 1) 4 9 = 0 := tg_all.2.symm
  rw [hE]
  clear r7 k7 f7 hE
  obtain ⟨hc0, hc1, hc2⟩ := LB.out _ B7.out
  go_wp2_with fail
  refine (PC.out _ _ _ R7.out).mono ?_
  rintro e w8 ⟨A3, q3, rfl, n8⟩
  have RA8 := Lib.hid (RA7.out.kpNo n8.kp); have RB8 := Lib.hid (RB7.out.kpNo n8.kp)
  have RC8 := Lib.hid n8.own.rd
  have K8 := Lib.hid (K7.out.no n8.kp)
  clear n8 hc0 hc1 hc2
  have l3 : ([(1, 1), (2, 2), (3, 3)] : List (Int × Int)).length = 3 := rfl
  have l4 : ([(1, 4), (2, 5), (3, 6)] : List (Int × Int)).length = 3 := rfl
  have l5 : ([(1, 9), (2, 10), (3, 11)] : List (Int × Int)).length = 3 := rfl
  simp only [l3, l4, l5] at RA8 RB8 RC8 ⊢
  go_wp2_with fail
  have s1 := Lib.hid (show Rd TK (w8.alloc (.cells #[.int .i64 1, .int .i64 1, .int .i64 2, .int .i64 2, .int .i64 3, .int .i64 3] 58)) (.slice (some ⟨w8.heap.size, 0, none⟩) 3 3) [(1, 1), (2, 2), (3, 3)] from Rd.litAt TK 58 w8 _ [(1, 1), (2, 2), (3, 3)] rfl (by unfold maxLen; simp) _ _ rfl rfl)
  refine (sameT_any (RA8.out.alloc _) s1.out (by simp) (by simp) true (by decide)).mono ?_
  rintro e w9 ⟨rfl, k9⟩
  have K9 := Lib.hid (((Kp.refl No w8).alloc (.cells #[.int .i64 1, .int .i64 1, .int .i64 2, .int .i64 2, .int .i64 3, .int .i64 3] 58)).no k9)
  clear k9
  go_wp2_with fail
  have s2 := Lib.hid (show Rd TK (w9.alloc (.cells #[.int .i64 1, .int .i64 4, .int .i64 2, .int .i64 5, .int .i64 3, .int .i64 6] 58)) (.slice (some ⟨w9.heap.size, 0, none⟩) 3 3) [(1, 4), (2, 5), (3, 6)] from Rd.litAt TK 58 w9 _ [(1, 4), (2, 5), (3, 6)] rfl (by unfold maxLen; simp) _ _ rfl rfl)
  refine (sameT_any ((RB8.out.kpNo K9.out).alloc _) s2.out (by simp) (by simp) true (by decide)).mono ?_
  rintro e w10 ⟨rfl, k10⟩
  have K10 := Lib.hid (K9.out.no (((Kp.refl No w9).alloc (.cells #[.int .i64 1, .int .i64 4, .int .i64 2, .int .i64 5, .int .i64 3, .int .i64 6] 58)).no k10))
  clear k10
  go_wp2_with fail
  have s3 := Lib.hid (show Rd TK (w10.alloc (.cells #[.int .i64 1, .int .i64 9, .int .i64 2, .int .i64 10, .int .i64 3, .int .i64 11] 58)) (.slice (some ⟨w10.heap.size, 0, none⟩) 3 3) [(1, 9), (2, 10), (3, 11)] from Rd.litAt TK 58 w10 _ [(1, 9), (2, 10), (3, 11)] rfl (by unfold maxLen; simp) _ _ rfl rfl)
  refine (sameT_any ((RC8.out.kpNo K10.out).alloc _) s3.out (by simp) (by simp) true (by decide)).mono ?_
  rintro e w11 ⟨rfl, k11⟩
  have K11 := Lib.hid (K8.out.no (K10.out.no (((Kp.refl No w10).alloc (.cells #[.int .i64 1, .int .i64 9, .int .i64 2, .int .i64 10, .int .i64 3, .int .i64 11] 58)).no k11)))
  clear k11
  go_wp2_with fail
  go_ret
  exact ⟨rfl, K11.out⟩
end Go.Proofs.YtgdokpfepfmbmaaDoor

namespace Go.Proofs.YtgdokpfepfmbmaaDoor
set_option linter.unusedVariables false
set_option linter.unusedSimpArgs false
open Go.RowKit

theorem RefTo.pre {br : Nat} {R' : List Rw} {V : Value} {w w1 w' : World} (h : RefTo br R' V w1 w') (hk : Kp No w w1) : RefTo br R' V w w' := by
  obtain ⟨V', a, b, c⟩ := h
  have := hk.size
  exact ⟨V', a, (hk.mono fun _ _ h => h.elim).trans b, fun g hg => (c g hg).imp id fun h => by omega⟩

/-- Both tables stand, apart from each other. -/
structure Two (w0 : World) (bt : Nat) (T : Int → List (Int × Int)) (br : Nat) (R : List Rw) (w : World) (F : Nat → Prop) (V : Value) : Prop where
  t : RepT w bt T F
  r : RepR w br R V
  nr : ¬ F br
  ne : bt ≠ br
  nv : ∀ g, V.ownBlock = some g → ¬ F g ∧ g ≠ bt
  kp : Kp No w0 w
  fo : ∀ k, F k → w0.heap.size ≤ k
  bo : w0.heap.size ≤ br
def AtJ (w0 : World) (bt : Nat) (T : Int → List (Int × Int)) (br : Nat) (R : List Rw) (w : World) : Prop := ∃ F V, Two w0 bt T br R w F V
theorem AtJ.kpNo {w0 w w' : World} {bt br : Nat} {T : Int → List (Int × Int)} {R : List Rw} (h : AtJ w0 bt T br R w) (hk : Kp No w w') : AtJ w0 bt T br R w' :=
  let ⟨F, V, t⟩ := h
  ⟨F, V, t.t.kpNo hk, t.r.kpNo hk, t.nr, t.ne, t.nv, t.kp.no hk, t.fo, t.bo⟩
theorem AtJ.kp {w0 w : World} {bt br : Nat} {T : Int → List (Int × Int)} {R : List Rw} (h : AtJ w0 bt T br R w) : Kp No w0 w := let ⟨_, _, t⟩ := h; t.kp

/-- ...and the block bx holds ob, apart from both. -/
def AtX (w0 : World) (bt : Nat) (T : Int → List (Int × Int)) (br : Nat) (R : List Rw) (bx : Nat) (ob : Obj) (w : World) : Prop := ∃ F V, Two w0 bt T br R w F V ∧ w.heap[bx]? = some ob ∧ ¬ F bx ∧ bx ≠ br
theorem AtX.j {w0 w : World} {bt br bx : Nat} {ob : Obj} {T : Int → List (Int × Int)} {R : List Rw} (h : AtX w0 bt T br R bx ob w) : AtJ w0 bt T br R w := let ⟨F, V, t, _⟩ := h; ⟨F, V, t⟩
theorem AtJ.x {w0 w : World} {bt br : Nat} {T : Int → List (Int × Int)} {R : List Rw} (h : AtJ w0 bt T br R w) (ob : Obj) : AtX w0 bt T br R w.heap.size ob (w.alloc ob) := by
  have h' := h.kpNo ((Kp.refl No w).alloc ob)
  obtain ⟨F, V, t⟩ := h
  have hb := lt_of_block t.r.blk
  exact ⟨F, V, ⟨t.t.kpNo ((Kp.refl No w).alloc ob), t.r.kpNo ((Kp.refl No w).alloc ob), t.nr, t.ne, t.nv, t.kp.alloc ob, t.fo, t.bo⟩, blk_new w ob, fun hF => by have := t.t.lt.2 _ hF; omega, by omega⟩
theorem AtX.kpNo {w0 w w' : World} {bt br bx : Nat} {ob : Obj} {T : Int → List (Int × Int)} {R : List Rw} (h : AtX w0 bt T br R bx ob w) (hk : Kp No w w') : AtX w0 bt T br R bx ob w' :=
  let ⟨F, V, t, a, b, c⟩ := h
  ⟨F, V, ⟨t.t.kpNo hk, t.r.kpNo hk, t.nr, t.ne, t.nv, t.kp.no hk, t.fo, t.bo⟩, hk.blk a (no_no _), b, c⟩
theorem AtX.blk {w0 w : World} {bt br bx : Nat} {ob : Obj} {T : Int → List (Int × Int)} {R : List Rw} (h : AtX w0 bt T br R bx ob w) : w.heap[bx]? = some ob := let ⟨_, _, _, a, _⟩ := h; a


theorem take_x {w0 w : World} {bt br bx : Nat} {ob : Obj} {T : Int → List (Int × Int)} {R : List Rw} (h : AtX w0 bt T br R bx ob w) (hT : WFT T) (c a b r : Int) (hr : r = takeE (T c) a b) :
    Calls Tryd.prog 19 #[.pointer (some ⟨bt, 0, none⟩), .int .i64 c, .agg #[.int .i64 a, .int .i64 b]] w fun e w' => e = .returned (.int .i64 r) ∧ AtX w0 bt (takeT T c a b) br R bx ob w' := by
  subst hr
  obtain ⟨F, V, t, x1, x2, x3⟩ := h
  refine (take_any t.t hT c a b).mono fun e w' ⟨he, F', g1, g2, g3⟩ => ⟨he, F', V, ⟨g1, t.r.kp g2 t.nr fun g hg => (t.nv g hg).1, ?_, t.ne, fun g hg => ⟨?_, (t.nv g hg).2⟩, t.kp.trans' g2 fun k hk hF => ?_, fun k hk => ?_, t.bo⟩, g2.blk x1 x2, ?_, x3⟩
  · intro hF; rcases g3 _ hF with h | h
    · exact t.nr h
    · have := lt_of_block t.r.blk; omega
  · intro hF; rcases g3 _ hF with h | h
    · exact (t.nv g hg).1 h
    · have := (t.r.ne g hg).2; omega
  · have := t.fo k hF; omega
  · have := t.kp.size
    rcases g3 _ hk with h | h
    · exact t.fo k h
    · omega
  · intro hF; rcases g3 _ hF with h | h
    · exact x2 h
    · have := lt_of_block x1; omega
theorem rtake_x {w0 w : World} {bt br bx : Nat} {ob : Obj} {T : Int → List (Int × Int)} {R : List Rw} (h : AtX w0 bt T br R bx ob w) (hlen : R.length ≤ 1000) (c a b r : Int) (hr : r = rtakeE R c a b) :
    Calls Tryd.prog 34 #[.pointer (some ⟨br, 0, none⟩), .int .i64 c, .agg #[.int .i64 a, .int .i64 b]] w fun e w' => e = .returned (.int .i64 r) ∧ AtX w0 bt T br (rtakeR R c a b) bx ob w' := by
  obtain ⟨F, V, t, x1, x2, x3⟩ := h
  refine (rtake_any t.r hlen c a b r hr).mono fun e w' ⟨he, V', g1, g2, g3⟩ => ⟨he, F, V', ⟨t.t.kp g2 t.ne (fun b hb e => t.nr (e ▸ hb)), g1, t.nr, t.ne, fun g hg => ?_, t.kp.trans' g2 fun k hk hF => ?_, t.fo, t.bo⟩, g2.blk x1 x3, x2, x3⟩
  · rcases g3 g hg with h | h
    · exact t.nv g h
    · exact ⟨fun hF => by have := t.t.lt.2 _ hF; omega, by have := t.t.lt.1; omega⟩
  · have := t.bo; omega
/-- What stands in the table behind some rows. -/
def tabT (l : List Rw) : Int → List (Int × Int) := l.foldl (fun T r => takeT T r.1 r.2.1 r.2.2) (fun _ => [])
theorem tabT_snoc {l : List Rw} {k : Nat} {x : Rw} (h : l[k]? = some x) : tabT (l.take (k + 1)) = takeT (tabT (l.take k)) x.1 x.2.1 x.2.2 := by
  unfold tabT; rw [List.take_add_one, h, List.foldl_append]; rfl
theorem foldT_wf : ∀ (l : List Rw) (T : Int → List (Int × Int)), WFT T → WFT (l.foldl (fun T r => takeT T r.1 r.2.1 r.2.2) T) := by
  intro l
  induction l with
  | nil => intro T h; exact h
  | cons x l ih => intro T h; exact ih _ (h.take _ _ _)
theorem tabT_wf (l : List Rw) : WFT (tabT l) := foldT_wf l _ WFT.nil
theorem insL_len (l : List (Int × Int)) (i : Nat) (x : Int × Int) : (insL l i x).length ≤ l.length + 1 := by
  unfold insL
  simp
  omega
theorem takeT_len (T : Int → List (Int × Int)) (c a b k : Int) : (takeT T c a b k).length ≤ (T k).length + 1 := by
  unfold takeT
  split
  · unfold setT
    split
    · rename_i h; subst h; exact insL_len _ _ _
    · omega
  · omega
theorem foldT_len : ∀ (l : List Rw) (T : Int → List (Int × Int)) (k : Int), (l.foldl (fun T r => takeT T r.1 r.2.1 r.2.2) T k).length ≤ (T k).length + l.length := by
  intro l
  induction l with
  | nil => intro T k; simp
  | cons x l ih =>
    intro T k
    have h1 := ih (takeT T x.1 x.2.1 x.2.2) k
    have h2 := takeT_len T x.1 x.2.1 x.2.2 k
    rw [List.foldl_cons, List.length_cons]
    omega
theorem tabT_len (l : List Rw) (k : Int) : (tabT l k).length ≤ l.length := by
  have := foldT_len l (fun _ => []) k
  simpa [tabT] using this
theorem tab_start {w0 w : World} {bt : Nat} {T : Int → List (Int × Int)} {b : Nat} (h : AtT w0 bt T w) (hb : b = w.heap.size) : AtJ w0 bt T b [] (w.alloc (.cells #[.slice none 0 0] 79)) := by
  subst hb
  obtain ⟨F, h1, h2, h3, h4⟩ := h
  have := h2.size
  exact ⟨F, .slice none 0 0, h1.kpNo ((Kp.refl _ _).alloc _), ⟨blk_new w _, Rd.nil _ _, by simp [Value.ownBlock]⟩, fun hF => by have := h1.lt.2 _ hF; omega, by have := h1.lt.1; omega, by simp [Value.ownBlock], h2.alloc _, h3, by omega⟩
/-- What tables hands back. -/
def TabO (l : List Rw) (w : World) (e : Ending) (w' : World) : Prop := ∃ bt br R, e = .returned (.tuple #[.pointer (some ⟨bt, 0, none⟩), .pointer (some ⟨br, 0, none⟩), .bool true]) ∧ AtJ w bt (tabT (l.take 60)) br R w' ∧ (∀ c, flt R c = tabT (l.take 60) c) ∧ R.length ≤ 60
set_option maxHeartbeats 2000000 in
set_option maxRecDepth 100000 in
theorem tables_any {w : World} {v : Value} {l : List Rw} (hl : Rd RK w v l) : Calls Tryd.prog 13 #[v] w (TabO l w) := by
  have hll := hl.lenI
  obtain ⟨A, cap, rfl⟩ := hl.shape
  obtain ⟨n, hn⟩ : ∃ n, n = l.length := ⟨_, rfl⟩
  rw [← hn] at hl hll ⊢
  unfold maxLen at hll
  have HN := Lib.hid hn; have HL := Lib.hid hl
  clear hl hn
  go_enter Tryd.func13, Tryd.ntmps13
  go_wp2_with fail
  refine (new_at _).mono ?_
  rintro e w2 ⟨bt, rfl, r2⟩
  have R2 := Lib.hid r2; clear r2
  obtain ⟨br, hbr⟩ : ∃ b, b = w2.heap.size := ⟨_, rfl⟩
  obtain ⟨w3, hw3⟩ : ∃ y : World, y = w2.alloc (.cells #[.slice none 0 0] 79) := ⟨_, rfl⟩
  have HJ := Lib.hid (show AtJ w bt (fun _ => []) br [] w3 by rw [hw3]; exact tab_start R2.out hbr)
  have HBR := Lib.hid hbr; have HW3 := Lib.hid hw3
  clear hbr hw3
  go_upto_region 2 with fail
  rw [← HBR.out, ← HW3.out]
  go_wp2_with fail
  go_loopg [14] (n + 1) (fun g_ iv wx => ∃ (i : Nat) (R : List Rw), g_ = n + 1 - i ∧ iv = .int .i64 i ∧ i ≤ n ∧ AtJ w bt (tabT ((l.take 60).take i)) br R wx ∧ (∀ c, flt R c = tabT ((l.take 60).take i) c) ∧ R.length ≤ min i 60)
  case atStart => exact ⟨0, [], rfl, rfl, by omega, HJ.out, fun c => rfl, by simp⟩
  case round =>
    obtain ⟨i, R, hg, rfl, hi, hj, hR, hRl⟩ := hrel
    have J := Lib.hid hj; have HR := Lib.hid hR
    clear hj hR
    by_cases hlt : i < n
    · have hltI : (i : Int) < (n : Int) := by omega
      have hwi : IntKind.i64.wrap ((i : Int) + 1) = (i : Int) + 1 := IntWalk.i64_in _ (by omega)
      obtain ⟨x, hx⟩ : ∃ x, l[i]? = some x := ⟨_, List.getElem?_eq_getElem (by rw [← HN.out]; exact hlt)⟩
      rcases (HL.out.kpNo J.out.kp) with ⟨_, he⟩ | ⟨g, o, cap', hv, _⟩
      · have := HN.out; rw [he, List.length_nil] at this; omega
      simp only [Value.slice.injEq] at hv
      obtain ⟨rfl, hzz, rfl⟩ := hv
      obtain ⟨hx0, hx1, hx2, hx3⟩ := (HL.out.kpNo J.out.kp).rowAt hx
      obtain ⟨bx, hbx⟩ : ∃ b, b = wr.heap.size := ⟨_, rfl⟩
      obtain ⟨w4, hw4⟩ : ∃ y : World, y = wr.alloc (.cells #[.int .i64 x.1, .int .i64 x.2.1, .int .i64 x.2.2] 45) := ⟨_, rfl⟩
      have X4 := Lib.hid (show AtX w bt (tabT ((l.take 60).take i)) br R bx (.cells #[.int .i64 x.1, .int .i64 x.2.1, .int .i64 x.2.2] 45 (0, 0)) w4 by rw [hw4, hbx]; exact J.out.x _)
      have HBX := Lib.hid hbx; have HW4 := Lib.hid hw4
      have HX := Lib.hid hx
      clear hzz hx hbx hw4 hwi
      go_upto_region 5 with fail
      rw [← HBX.out, ← HW4.out]
      clear hx0 hx1 hx2 hx3
      have c0 : w4.cell? ⟨bx, 0, none⟩ = some (.int .i64 x.1) := blk_cell X4.out.blk 0
      have c1 : w4.cell? ⟨bx, 1, none⟩ = some (.int .i64 x.2.1) := blk_cell X4.out.blk 1
      have c2 : w4.cell? ⟨bx, 2, none⟩ = some (.int .i64 x.2.2) := blk_cell X4.out.blk 2
      go_cut [19, 20, 21, 22, 23, 24, 25, 26, 27, 28, 29, 30, 31, 32, 33, 34, 35] (fun _ _ _ _ _ _ _ _ _ _ _ _ _ _ _ _ v35 wx => v35 = .bool false ∧ ∃ R', AtJ w bt (tabT ((l.take 60).take (i + 1))) br R' wx ∧ (∀ c, flt R' c = tabT ((l.take 60).take (i + 1)) c) ∧ R'.length ≤ min (i + 1) 60)
      case first =>
        by_cases h60 : i < 60
        · have h6I : (i : Int) < 60 := by omega
          have d6 : decide ((i : Int) < 60) = true := by simpa using h6I
          have hx6 : (l.take 60)[i]? = some x := by rw [List.getElem?_take, if_pos h60]; exact HX.out
          have HTS := Lib.hid (tabT_snoc hx6)
          have RT := Lib.hid (ref_take HR.out (tabT_wf _) (show R.length ≤ 1000 by omega) x.1 x.2.1 x.2.2)
          obtain ⟨r, hr⟩ : ∃ r, r = takeE (tabT ((l.take 60).take i) x.1) x.2.1 x.2.2 := ⟨_, rfl⟩
          have HRR := Lib.hid hr
          have HRQ := Lib.hid (show r = rtakeE R x.1 x.2.1 x.2.2 by rw [hr]; exact RT.out.1.symm)
          have hrl2 := rtake_len R x.1 x.2.1 x.2.2
          clear hr hx6
          go_region_held3 (fun w' => w'.cell? ⟨bx, 0, none⟩ = some (.int .i64 x.1) ∧ w'.cell? ⟨bx, 1, none⟩ = some (.int .i64 x.2.1) ∧ w'.cell? ⟨bx, 2, none⟩ = some (.int .i64 x.2.2)) (first | exact ⟨by assumption, by assumption, by assumption⟩ | simp [go_sem, *])
            (first
              | (go_at_call 19; refine (take_x (X4.out.kpNo (Kp.refl No w4).drew) (tabT_wf _) x.1 x.2.1 x.2.2 r HRR.out).mono ?_; rintro e w5 ⟨rfl, j5⟩; have e0 : w5.cell? ⟨bx, 0, none⟩ = some (.int .i64 x.1) := blk_cell j5.blk 0; have e1 : w5.cell? ⟨bx, 1, none⟩ = some (.int .i64 x.2.1) := blk_cell j5.blk 1; have e2 : w5.cell? ⟨bx, 2, none⟩ = some (.int .i64 x.2.2) := blk_cell j5.blk 2; have J5 := Lib.hid j5; clear j5)
              | (go_at_call 34; refine (rtake_x J5.out (by omega) x.1 x.2.1 x.2.2 r HRQ.out).mono ?_; rintro e w6 ⟨rfl, j6⟩; have f0 : w6.cell? ⟨bx, 0, none⟩ = some (.int .i64 x.1) := blk_cell j6.blk 0; have f1 : w6.cell? ⟨bx, 1, none⟩ = some (.int .i64 x.2.1) := blk_cell j6.blk 1; have f2 : w6.cell? ⟨bx, 2, none⟩ = some (.int .i64 x.2.2) := blk_cell j6.blk 2; have J6 := Lib.hid j6; clear j6))
          all_goals
            go_wp2_with fail
            go_meet
            exact ⟨by simp, _, by rw [HTS.out]; exact J6.out.j.kpNo ((Kp.refl No _).drewN 0), by rw [HTS.out]; exact RT.out.2, by omega⟩
        · have h6I : ¬ (i : Int) < 60 := by omega
          have d6 : decide ((i : Int) < 60) = false := by simpa using h6I
          have HTE := Lib.hid (show (l.take 60).take (i + 1) = (l.take 60).take i from by
            have e : (l.take 60).length ≤ i := by rw [List.length_take]; omega
            exact (List.take_of_length_le (by omega)).trans (List.take_of_length_le e).symm)
          clear h6I
          go_quiet (fail)
          go_wp2_with fail
          go_meet
          exact ⟨rfl, R, by rw [HTE.out]; exact X4.out.j.kpNo ((Kp.refl No _).drewN _), by rw [HTE.out]; exact HR.out, by omega⟩
      case rest =>
        obtain ⟨rfl, R', hj, hR, hRl'⟩ := hcut
        obtain ⟨w5, hw5⟩ : ∃ y : World, y = wc := ⟨_, rfl⟩
        rw [← hw5] at hj ⊢
        have J5 := Lib.hid hj; have HR5 := Lib.hid hR
        have hwi : IntKind.i64.wrap ((i : Int) + 1) = (i : Int) + 1 := IntWalk.i64_in _ (by omega)
        clear hw5 hj hR c0 c1 c2
        go_wp2_with fail
        go_roundg (n + 1 - (i + 1))
        case measure => omega
        case rel => exact ⟨i + 1, R', rfl, by go_num, by omega, J5.out, HR5.out, hRl'⟩
    · obtain rfl : i = n := by omega
      have hd0 : ¬ (i : Int) < (i : Int) := by omega
      have HTE := Lib.hid (show (l.take 60).take i = l.take 60 from List.take_of_length_le (by rw [List.length_take, ← HN.out]; omega))
      clear hlt
      go_wp2_with fail
      go_ret3
      exact ⟨bt, br, R, rfl, by rw [← HTE.out]; exact J.out, by rw [← HTE.out]; exact HR.out, by omega⟩
end Go.Proofs.YtgdokpfepfmbmaaDoor

namespace Go.Proofs.YtgdokpfepfmbmaaDoor
set_option linter.unusedVariables false
set_option linter.unusedSimpArgs false
open Go.RowKit

/-- v, that came in, reads as l. -/
def RdA {α : Type} (K : Kd α) (w : World) (v : Value) (l : List α) : Prop :=
  ∃ A cap, v = .slice A l.length cap ∧ ∀ i x, l[i]? = some x → ∃ g o, A = some ⟨g, o, none⟩ ∧ ∀ j u, (K.enc x)[j]? = some u → w.cell? ⟨g, o + i * K.sz + j, none⟩ = some u

theorem Rd.a {α : Type} {K : Kd α} {w : World} {v : Value} {l : List α} (h : Rd K w v l) : RdA K w v l := by
  have h' := h
  rcases h with ⟨⟨A, c, rfl⟩, rfl⟩ | ⟨g, o, cap, rfl, _⟩
  · exact ⟨A, c, rfl, by simp⟩
  · exact ⟨_, cap, rfl, fun i x hx => ⟨g, o, rfl, fun j u hu => h'.at rfl hx hu⟩⟩
theorem RdA.kpNo {α : Type} {K : Kd α} {w w' : World} {v : Value} {l : List α} (h : RdA K w v l) (hk : Kp No w w') : RdA K w' v l :=
  let ⟨A, cap, hv, hc⟩ := h
  ⟨A, cap, hv, fun i x hx => let ⟨g, o, hA, hu⟩ := hc i x hx; ⟨g, o, hA, fun j u hj => hk.cellS (hu j u hj) (no_no _)⟩⟩
theorem RdA.shape {α : Type} {K : Kd α} {w : World} {v : Value} {l : List α} (h : RdA K w v l) : ∃ A cap, v = .slice A l.length cap := let ⟨A, cap, hv, _⟩ := h; ⟨A, cap, hv⟩
theorem RdA.take {α : Type} {K : Kd α} {w : World} {A : Option Addr} {n cap : Nat} {l : List α} (h : RdA K w (.slice A n cap) l) (m : Nat) : RdA K w (.slice A (min m n) cap) (l.take m) := by
  obtain ⟨A', cap', hv, hc⟩ := h
  simp only [Value.slice.injEq] at hv
  obtain ⟨rfl, rfl, rfl⟩ := hv
  refine ⟨A, cap, by simp, fun i x hx => ?_⟩
  rw [List.getElem?_take] at hx
  split at hx
  · exact hc i x hx
  · cases hx
theorem RdA.at {α : Type} {K : Kd α} {w : World} {A : Option Addr} {n cap : Nat} {l : List α} (h : RdA K w (.slice A n cap) l) {i : Nat} {x : α} (hx : l[i]? = some x) :
    ∃ g o, A = some ⟨g, o, none⟩ ∧ ∀ j u, (K.enc x)[j]? = some u → w.cell? ⟨g, o + i * K.sz + j, none⟩ = some u := by
  obtain ⟨A', cap', hv, hc⟩ := h
  simp only [Value.slice.injEq] at hv
  obtain ⟨rfl, rfl, rfl⟩ := hv
  exact hc i x hx

/-- 's[:hi]' of whatever came in. -/
theorem run_slice_hiA {α : Type} {K : Kd α} {P : Program} {t e : TypeId} {bytes : Nat} (E : ElT P t e K bytes) (A : Option Addr) (n cap hi : Nat) (h : hi ≤ cap) (x : Int) (hx : x = hi) (w : World) :
    (Instr.slice t (.slice A n cap) none (some (.int .i64 x)) none).run P w = .ok (.slice A hi cap) w := by
  subst hx
  obtain ⟨ht, i, z, hi', hz, hsize, hby, hzs⟩ := E
  have hA : (if cap = 0 then A else A.map (·.add (0 * i.size))) = A := by
    split
    · rfl
    · cases A <;> simp [Addr.add]
  simp only [Nat.zero_mul] at hA
  simp [Instr.slice, Instr.sliceBounds, Instr.sliceBound, run_underlying ht, sizeOf, typeInfo, hi', asIntOf, h, hA]

theorem list_of {α : Type} (Q : Nat → α → Prop) : ∀ n, (∀ i, i < n → ∃ x, Q i x) → ∃ l : List α, l.length = n ∧ ∀ i x, l[i]? = some x → Q i x
  | 0, _ => ⟨[], rfl, by simp⟩
  | n + 1, h => by
    obtain ⟨l, hl, hq⟩ := list_of Q n fun i hi => h i (by omega)
    obtain ⟨x, hx⟩ := h n (by omega)
    refine ⟨l ++ [x], by simp [hl], fun i y hy => ?_⟩
    rw [List.getElem?_append] at hy
    split at hy
    · exact hq i y hy
    · rename_i hi
      have : i = l.length := by
        have := (List.getElem?_eq_some_iff.1 hy).1
        simp at this; omega
      subst this
      simp at hy
      subst hy
      rw [hl]; exact hx

theorem open_rows {α : Type} {K : Kd α} {H : Type} {enc : TypeId × Value → H} {P : Program} {w : World} {base : Nat} {spare : Nat → Bool} {held : Bool} {t e : TypeId} {fuel : Nat} {v : Value} {x : DataW H × List MemPlace} (Good : α → Prop)
    (ht : P.underlying t = some (.slice e)) (hC : P.cellsOf e = K.sz) (dec : ∀ n cs' y, DataW.trod enc P w base spare held n e cs' = some y → ∃ x : α, cs' = K.enc x ∧ Good x)
    (h : DataW.trod enc P w base spare held fuel t [v] = some x) : ∃ l : List α, RdA K w v l ∧ (∀ x ∈ l, Good x) ∧ ∃ A cap, v = .slice A l.length cap ∧ l.length ≤ cap ∧ cap ≤ maxLen := by
  rcases Go.Deep.open_slice ht h with ⟨h0, _⟩ | ⟨a, len, cap, m, n, D, Pl, hcs, hb, hl, hm, hmm, hx, hi⟩
  · simp at h0
    exact ⟨[], ⟨none, 0, h0, by simp⟩, by simp, none, 0, h0, by simp, by simp⟩
  · simp at hcs
    have hml : len ≤ m := by rw [hmm]; split <;> omega
    have hsp : 0 < len → a = ⟨a.block, a.off, none⟩ := by
      intro h0
      obtain ⟨cs', hc, ht'⟩ := hi 0 (by omega)
      obtain ⟨y, rfl, _⟩ := dec n cs' _ ht'
      obtain ⟨_, hcl, hat⟩ := World.cells?_some hc
      have h1 := hat 0 (by rw [hC]; exact K.pos)
      rw [List.getElem?_eq_getElem (by rw [K.len y]; exact K.pos), Nat.zero_mul] at h1
      have := World.cell?_spot h1
      simp only [Addr.add, if_true] at this
      obtain ⟨b, o, sp⟩ := a
      simp only at this
      rw [this]
    obtain ⟨l, hll, hq⟩ := list_of (fun i (x : α) => Good x ∧ ∃ g o, some a = some (⟨g, o, none⟩ : Addr) ∧ ∀ j u, (K.enc x)[j]? = some u → w.cell? ⟨g, o + i * K.sz + j, none⟩ = some u) len fun i hil => by
      obtain ⟨cs', hc, ht'⟩ := hi i (by omega)
      obtain ⟨y, rfl, hg⟩ := dec n cs' _ ht'
      obtain ⟨_, hcl, hat⟩ := World.cells?_some hc
      rw [hC] at hat
      have ha := hsp (by omega)
      refine ⟨y, hg, a.block, a.off, congrArg some ha, fun j u hj => ?_⟩
      have hjl : j < K.sz := by rw [← K.len y]; exact (List.getElem?_eq_some_iff.1 hj).1
      have := hat j hjl
      rw [ha] at this
      simp only [Addr.add_lit] at this
      rw [this, hj]
    subst hll
    exact ⟨l, ⟨some a, cap, hcs, fun i x hx => (hq i x hx).2⟩, fun x hx => by obtain ⟨i, hil, rfl⟩ := List.getElem_of_mem hx; exact (hq i _ (List.getElem?_eq_getElem hil)).1, some a, cap, hcs, hl, hm⟩
end Go.Proofs.YtgdokpfepfmbmaaDoor

namespace Go.Proofs.YtgdokpfepfmbmaaDoor
set_option linter.unusedVariables false
set_option linter.unusedSimpArgs false
open Go.ChangeShapes Go.WideShapes Go.ChangeAt Go.RowKit Go.Joins

section
variable {H : Type} {enc : TypeId × Value → H} {w : World} {base : Nat} {spare : Nat → Bool} {held : Bool}
set_option maxRecDepth 100000 in
theorem open_floor {v : Value} {d : DataW H} {p : List MemPlace} {r : Reach} {b0 : Nat} (hv : Value.okWide Tryd.prog w r b0 23 v) (h : DataW.Trod enc Tryd.prog w base spare held 23 v d p) :
    ∃ f : Flr, v = f.val ∧ f.s.size ≤ 9223372036854775807 := by
  obtain ⟨v0, v1, v2, y0, y1, y2, n, rfl, _, _, h0, h1, h2⟩ := open_agg3 Tryd.underlying23 (by kernel_rfl) (by kernel_rfl) hv h
  obtain ⟨a, e0, _, _⟩ := DataW.trod_int Tryd.underlying3 h0
  obtain ⟨b, e1, _, _⟩ := DataW.trod_int Tryd.underlying3 h1
  obtain ⟨s, e2, _, hs⟩ := DataW.trod_string Tryd.underlying9 h2
  simp at e0 e1 e2
  subst e0 e1 e2
  exact ⟨⟨a, b, s⟩, rfl, hs⟩
end
end Go.Proofs.YtgdokpfepfmbmaaDoor
