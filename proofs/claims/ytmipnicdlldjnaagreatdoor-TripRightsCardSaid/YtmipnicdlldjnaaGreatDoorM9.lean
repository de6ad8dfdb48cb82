/- carfaxref05: the map in memory; in, open; carfaxref05: Steps; carfaxref05: Of, what it holds in memory; carfaxref05: Of; carfaxref05, plain: how far a cell on the way is. No function of the program; carfaxref05: Map.Dist; carfaxref05: far, Map.Find; carfaxref05: Map.Find; carfaxref10.Make. No condition. -/
import Derived.Test.YtmipnicdlldjnaaGreatDoorM4
import Derived.Test.YtmipnicdlldjnaaGreatDoorM5
import Derived.Test.YtmipnicdlldjnaaGreatDoorM8
import Derived.Test.YtmipnicdlldjnaaGreatDoorM3
import Derived.Deep.RegionLaw
import Derived.Deep.CutBlock
import Derived.Deep.DeepCutAuto
import Derived.Deep.Cut
import Derived.Deep.CutRange
import Derived.Test.YtmipnicdlldjnaaGreatDoorM7
import Derived.Deep.RegionHeld3
import Derived.OpenShut
import Derived.Lib.SmallJoins

namespace Go.Proofs.YtmipnicdlldjnaaGreatDoor
set_option linter.unusedVariables false
set_option linter.unusedSimpArgs false
open Go.RowKit

noncomputable def mpN (f : Flr) : Nat := if rightB f = true then f.s.size else 0
def opL (f : Flr) (n : Nat) : List Bool := (List.range n).map fun i => bt f.s i != 35
theorem opL_len (f : Flr) (n : Nat) : (opL f n).length = n := by simp [opL]
theorem opL_get {f : Flr} {n i : Nat} (h : i < n) : (opL f n)[i]? = some (bt f.s i != 35) := by simp [opL, List.getElem?_range h]
/-- A reference's map. -/
structure MpC where
  A1 : Option Addr
  q1 : Nat
  A2 : Option Addr
  q2 : Nat
  A3 : Option Addr
  q3 : Nat
def MpC.val (M : MpC) (n : Nat) : Value := .agg #[.slice M.A1 n M.q1, .slice M.A2 n M.q2, .slice M.A3 n M.q3]
structure MpW (f : Flr) (n : Nat) (M : MpC) (Vs : List SlC) (w : World) : Prop where
  hn : n = mpN f
  nr : Rd SvK w (.slice M.A1 n M.q1) Vs
  ln : Rd BoK w (.slice M.A2 n M.q2) (lnB f n n)
  op : Rd BoK w (.slice M.A3 n M.q3) (opL f n)
  len : Vs.length = n
  rd : ∀ (i : Nat) v, Vs[i]? = some v → Rd IK w (slv v) (ints (nearP f i))
theorem MpW.no {f : Flr} {n : Nat} {M : MpC} {Vs : List SlC} {w w' : World} (h : MpW f n M Vs w) (hk : Kp No w w') : MpW f n M Vs w' := ⟨h.hn, h.nr.kpNo hk, h.ln.kpNo hk, h.op.kpNo hk, h.len, fun i v hv => (h.rd i v hv).kpNo hk⟩
theorem Rd.one {α : Type} {K : Kd α} {enc : α → Value} (hK : K1 K enc) {w : World} {l : List α} {g o n cap : Nat} (h : Rd K w (.slice (some ⟨g, o, none⟩) n cap) l) {i : Nat} {x : α} (hx : l[i]? = some x) : w.cell? ⟨g, o + i, none⟩ = some (enc x) := by
  have := h.at rfl hx (j := 0) (u := enc x) (by rw [hK.enc]; rfl)
  rwa [hK.sz, Nat.mul_one, Nat.add_zero] at this
theorem Rd.some_ {α : Type} {K : Kd α} {w : World} {l : List α} {A : Option Addr} {n cap : Nat} (h : Rd K w (.slice A n cap) l) (hn : 0 < n) : ∃ g o, A = some ⟨g, o, none⟩ := by
  rcases h with ⟨⟨A', c, hv⟩, _⟩ | ⟨g, o, c, hv, _⟩
  · simp only [Value.slice.injEq] at hv; omega
  · simp only [Value.slice.injEq] at hv; exact ⟨g, o, hv.1⟩

set_option maxRecDepth 100000 in
theorem q5in_any {w : World} {v : Value} {l : List Int} (hv : Rd IK w v l) (x : Int) (b : Bool) (hb : b = decide (x ∈ l)) :
    Calls Tryz.prog 65 #[.int .i64 x, v] w fun e w' => e = .returned (.bool b) ∧ Kp No w w' := by
  have hl := hv.lenI
  obtain ⟨A, c, rfl⟩ := hv.shape
  obtain ⟨n, hn⟩ : ∃ n, n = l.length := ⟨_, rfl⟩
  rw [← hn] at hv hl ⊢
  have H := Lib.hid hv; have HN := Lib.hid hn; have HB := Lib.hid hb
  unfold maxLen at hl
  clear hv hn hb
  go_enter Tryz.func65, Tryz.ntmps65
  go_wp2_with fail
  go_loopg [5] (n + 1) (fun g_ iv wx => ∃ i : Nat, g_ = n + 1 - i ∧ iv = .int .i64 i ∧ i ≤ n ∧ (∀ y ∈ l.take i, y ≠ x) ∧ Kp No w wx)
  case atStart => exact ⟨0, rfl, rfl, by omega, by simp, Kp.refl _ _⟩
  case round =>
    obtain ⟨i, hg, rfl, hi, hno, kp⟩ := hrel
    have NO := Lib.hid hno; have KP := Lib.hid kp
    clear hno kp
    by_cases hlt : i < n
    · have hltI : (i : Int) < (n : Int) := by omega
      have hwi : IntKind.i64.wrap ((i : Int) + 1) = (i : Int) + 1 := IntWalk.i64_in _ (by omega)
      obtain ⟨y, hy⟩ : ∃ y, l[i]? = some y := ⟨_, List.getElem?_eq_getElem (by rw [← HN.out]; exact hlt)⟩
      rcases H.out with ⟨_, he⟩ | ⟨g, o, cap', hv, _⟩
      · have := HN.out; rw [he, List.length_nil] at this; omega
      simp only [Value.slice.injEq] at hv
      obtain ⟨rfl, hzz, rfl⟩ := hv
      clear hzz
      have hc := (H.out.kpNo KP.out).intAt hy
      have HY := Lib.hid hy
      clear hy hlt
      by_cases hxy : y = x
      · subst hxy
        have HE := Lib.hid (show b = true by rw [HB.out, decide_eq_true_eq]; exact List.mem_of_getElem? HY.out)
        go_wp2_with fail
        go_ret
        exact ⟨by rw [HE.out]; rfl, KP.out⟩
      · have hb : (y == x) = false := by simpa using hxy
        have NO2 := Lib.hid (show ∀ z ∈ l.take (i + 1), z ≠ x from fun z hz => by
          rw [List.take_add_one, HY.out] at hz
          rcases List.mem_append.1 hz with h | h
          · exact NO.out z h
          · simp at h; subst h; exact hxy)
        clear hxy
        go_wp2_with fail
        go_roundg (n + 1 - (i + 1))
        case measure => omega
        case rel => exact ⟨i + 1, rfl, by go_num, by omega, NO2.out, KP.out⟩
    · obtain rfl : i = n := by omega
      have hd0 : ¬ (i : Int) < (i : Int) := by omega
      have HE := Lib.hid (show b = false by
        rw [HB.out, decide_eq_false_iff_not]
        intro h
        exact NO.out x (by rw [HN.out, List.take_length]; exact h) rfl)
      clear hlt
      go_wp2_with fail
      go_ret
      exact ⟨by rw [HE.out]; rfl, KP.out⟩
set_option maxRecDepth 100000 in
theorem q5open_any {f : Flr} {n : Nat} {M : MpC} {Vs : List SlC} {w : World} (h : MpW f n M Vs w) (hn : n ≤ 1000000) (c : Int) (b : Bool) (hb : ptOk f c = b) :
    Calls Tryz.prog 43 #[M.val n, .int .i64 c] w fun e w' => e = .returned (.bool b) ∧ Kp No w w' := by
  have H := Lib.hid h
  have KA := Lib.hid (show Kp No w (w.alloc (.cells #[.slice M.A1 n M.q1, .slice M.A2 n M.q2, .slice M.A3 n M.q3] 51)) from (Kp.refl _ _).alloc _)
  by_cases h0 : 0 ≤ c
  · by_cases h1 : c < n
    · obtain ⟨j, rfl⟩ : ∃ j : Nat, c = j := ⟨c.toNat, by omega⟩
      have hj : j < n := by omega
      obtain ⟨g, o, hA⟩ := h.op.some_ (by omega)
      have hop := h.op
      rw [hA] at hop
      have hcell := (hop.kpNo KA.out).one BoK1 (opL_get hj)
      have HE := Lib.hid (show (bt f.s j != 35) = b by
        rw [← hb]
        have hh := h.hn
        unfold mpN at hh
        unfold ptOk
        by_cases hr : rightB f = true
        · rw [if_pos hr] at hh
          rw [hr]
          have h3 : (j : Int) < (f.s.size : Int) := by omega
          simp [h3]
          try (intro h4; omega)
        · rw [if_neg hr] at hh; omega)
      obtain ⟨A1, q1, A2, q2, A3, q3⟩ := M
      simp only at hA
      subst hA
      unfold MpC.val
      simp only at hcell ⊢
      clear h hop hb hj KA
      have HE2 := HE.out
      obtain ⟨t, ht⟩ : ∃ t, t = (bt f.s j != 35) := ⟨_, rfl⟩
      rw [← ht] at hcell HE2
      clear ht HE H
      go_enter Tryz.func43, Tryz.ntmps43
      go_wp2_with fail
      go_ret
      exact ⟨by first | rfl | (rw [HE2]; rfl), (Kp.refl _ _).alloc _⟩
    · have HE := Lib.hid (show b = false by
        rw [← hb]
        have hh := h.hn
        unfold mpN at hh
        unfold ptOk
        by_cases hr : rightB f = true
        · rw [if_pos hr] at hh
          have h3 : ¬ c < (f.s.size : Int) := by omega
          simp [h3]
        · simp at hr; simp [hr])
      have h1b : decide (c < (n : Int)) = false := by simpa using h1
      obtain ⟨A1, q1, A2, q2, A3, q3⟩ := M
      unfold MpC.val
      clear h hb h1 KA H
      go_enter Tryz.func43, Tryz.ntmps43
      go_wp2_with fail
      go_ret
      exact ⟨by rw [HE.out]; rfl, (Kp.refl _ _).alloc _⟩
  · have HE := Lib.hid (show b = false by
      rw [← hb]; unfold ptOk; simp [h0])
    have h0b : decide (0 ≤ c) = false := by simpa using h0
    obtain ⟨A1, q1, A2, q2, A3, q3⟩ := M
    unfold MpC.val
    clear h hb h0 KA H
    go_enter Tryz.func43, Tryz.ntmps43
    go_wp2_with fail
    go_ret
    exact ⟨by rw [HE.out]; rfl, (Kp.refl _ _).alloc _⟩
end Go.Proofs.YtmipnicdlldjnaaGreatDoor

namespace Go.Proofs.YtmipnicdlldjnaaGreatDoor
set_option linter.unusedVariables false
set_option linter.unusedSimpArgs false
open Go.RowKit

set_option maxHeartbeats 1000000 in
set_option maxRecDepth 100000 in
theorem q5Steps_any {f : Flr} {n : Nat} {M : MpC} {Vs : List SlC} {w : World} {bv : Value} {B : List Int} (h : MpW f n M Vs w) (hn : n ≤ 1000000) (u fr : Nat) (hu : u < n) (hB : Rd IK w bv B) :
    Calls Tryz.prog 45 #[M.val n, .int .i64 (u : Int), .int .i64 (fr : Int), bv] w fun e w' => ∃ v, e = .returned v ∧ NewS IK 3 w w' v (ints (stepsP f fr B u)) := by
  have H := Lib.hid h; have HB := Lib.hid hB
  obtain ⟨N, hN⟩ : ∃ N, N = stepsP f fr B u := ⟨_, rfl⟩
  rw [← hN]
  unfold stepsP at hN
  obtain ⟨w1, hw1⟩ : ∃ w1, w1 = w.alloc (.cells #[.slice M.A1 n M.q1, .slice M.A2 n M.q2, .slice M.A3 n M.q3] 51) := ⟨_, rfl⟩
  have K1 := Lib.hid (show Kp No w w1 by rw [hw1]; exact (Kp.refl _ _).alloc _)
  have BX := Lib.hid (show w1.heap[w.heap.size]? = some (.cells #[.slice M.A1 n M.q1, .slice M.A2 n M.q2, .slice M.A3 n M.q3] 51 (0, 0)) by rw [hw1]; exact blk_new w _)
  have HW1 := Lib.hid hw1
  clear hw1
  obtain ⟨g1, o1, hA1⟩ := h.nr.some_ (by omega)
  obtain ⟨g2, o2, hA2⟩ := h.ln.some_ (by omega)
  obtain ⟨⟨AN, m, qN⟩, hv⟩ : ∃ v, Vs[u]? = some v := ⟨_, List.getElem?_eq_getElem (by rw [h.len]; exact hu)⟩
  have hrd := h.rd u _ hv
  unfold slv at hrd
  simp only at hrd
  obtain ⟨A', q', hsh⟩ := hrd.shape
  simp only [Value.slice.injEq] at hsh
  obtain ⟨rfl, hm, rfl⟩ := hsh
  rw [ints_len] at hm
  have hm4 : m ≤ 4 := by rw [hm]; exact near_len4 f u
  have hnr := h.nr; have hln := h.ln
  rw [hA1] at hnr; rw [hA2] at hln
  have CN := Lib.hid (fun wx (hk : Kp No w wx) => show wx.cell? ⟨g1, o1 + u, none⟩ = some (.slice AN m qN) from (hnr.kpNo hk).one SvK1 hv)
  obtain ⟨lb, hlb⟩ : ∃ b, b = decide (kdS f.s u = 2) := ⟨_, rfl⟩
  have hlg := lnB_get (f := f) (k := n) hu
  rw [show decide (u < n ∧ kdS f.s u = 2) = lb by rw [hlb]; simp [hu]] at hlg
  have hcl := (hln.kpNo K1.out).one BoK1 hlg
  obtain ⟨db, hdb⟩ : ∃ b, b = ((u : Int) != (fr : Int)) := ⟨_, rfl⟩
  have hdbI := hdb.symm
  have huI : (u : Int) < (n : Int) := by omega
  have HRd := Lib.hid hrd; have HM := Lib.hid hm
  obtain ⟨A1, q1, A2, q2, A3, q3⟩ := M
  simp only at hA1 hA2 BX HW1
  subst hA1 hA2
  unfold MpC.val
  simp only
  clear h hB hv hrd hnr hln hlg H hm
  by_cases hx : u ≠ fr ∧ kdS f.s u ≠ 2
  · rw [if_pos hx] at hN
    obtain rfl : lb = false := by rw [hlb]; simp [hx.2]
    obtain rfl : db = true := by rw [hdb]; simp; omega
    have HN := Lib.hid hN
    clear hN hx hlb hdb hu
    have hb1 : w1.cell? ⟨w.heap.size, 1, none⟩ = some (.slice (some ⟨g2, o2, none⟩) n q2) := blk_cell BX.out 1
    go_enter Tryz.func45, Tryz.ntmps45
    go_upto_region 1 with fail
    rw [← HW1.out]
    go_wp2_with fail
    go_ret
    exact ⟨_, rfl, by rw [HN.out]; exact ⟨Own.nil _ _ _, by simp [Value.ownBlock], K1.out⟩⟩
  · rw [if_neg hx] at hN
    have hor : db = true → lb = true := fun e => by
      rw [hdb] at e; simp at e
      have : u ≠ fr := by omega
      rw [hlb]; simp
      exact Classical.byContradiction fun h2 => hx ⟨this, h2⟩
    have HN := Lib.hid (show N = stepsTo f B u (nearP f u).length by rw [hN]; unfold stepsTo; rw [List.take_length])
    clear hx hlb hdb hN hu
    have hcase : (db = true ∧ lb = true) ∨ db = false := by
      cases db with
      | true => exact .inl ⟨rfl, hor rfl⟩
      | false => exact .inr rfl
    clear hor
    rcases hcase with ⟨rfl, rfl⟩ | rfl
    all_goals
      have hb1 : w1.cell? ⟨w.heap.size, 1, none⟩ = some (.slice (some ⟨g2, o2, none⟩) n q2) := blk_cell BX.out 1
      go_enter Tryz.func45, Tryz.ntmps45
      go_upto_region 1 with fail
      rw [← HW1.out]
      go_wp2_with fail
      clear hb1 hcl
      go_loopg [9, 10] (m + 1) (fun g_ v ii wx => ∃ (j k : Nat) (A : Option Addr) (q : Nat), g_ = m + 1 - j ∧ ii = .int .i64 j ∧ j ≤ m ∧ v = .slice A k q ∧ k = (stepsTo f B u j).length ∧ NewS IK 3 w1 wx v (ints (stepsTo f B u j)))
      case atStart => exact ⟨0, 0, none, 0, rfl, rfl, by omega, rfl, rfl, NewS.nil _ _ _⟩
      case round =>
        obtain ⟨j, k, A2, q2, hgk, rfl, hj, rfl, hk, ns⟩ := hrel
        have hk4 : k ≤ 4 := by rw [hk]; exact Nat.le_trans (stepsTo_len f B u j) (by omega)
        have HK := Lib.hid hk; have NS := Lib.hid ns
        have hb0 : wr.cell? ⟨w.heap.size, 0, none⟩ = some (.slice (some ⟨g1, o1, none⟩) n q1) := blk_cell (NS.out.kp.blk BX.out (no_no _)) 0
        have hcn := CN.out wr (K1.out.no NS.out.kp)
        clear hk ns
        by_cases hlt : j < m
        · have hltI : (j : Int) < (m : Int) := by omega
          have hwj : IntKind.i64.wrap ((j : Int) + 1) = (j : Int) + 1 := IntWalk.i64_in _ (by omega)
          obtain ⟨x, hx⟩ : ∃ x, (nearP f u)[j]? = some x := ⟨_, List.getElem?_eq_getElem (by rw [← HM.out]; exact hlt)⟩
          rcases HRd.out with ⟨_, he⟩ | ⟨g, o, cap', hv, _⟩
          · have h1 := HM.out
            have := congrArg List.length he
            rw [ints_len, List.length_nil] at this
            omega
          simp only [Value.slice.injEq] at hv
          obtain ⟨rfl, hzz, rfl⟩ := hv
          clear hzz
          have hcx := (HRd.out.kpNo (K1.out.no NS.out.kp)).intAt (ints_get hx)
          obtain ⟨bb, hb⟩ : ∃ b, b = decide ((x : Int) ∈ B) := ⟨_, rfl⟩
          have QI := Lib.hid (q5in_any (HB.out.kpNo (K1.out.no NS.out.kp)) (x : Int) bb hb)
          have HX := Lib.hid hx
          have HBB := Lib.hid hb
          clear hx hlt hb
          go_wp2_with fail
          refine QI.out.mono ?_
          rintro e w3 ⟨rfl, kp3⟩
          have N3 := Lib.hid (NS.out.kpNo kp3)
          clear kp3 hb0 hcn hcx
          cases bb with
          | true =>
            have HL := Lib.hid (stepsTo_out HX.out (by simpa using HBB.out.symm))
            go_wp2_with fail
            go_roundg (m + 1 - (j + 1))
            case measure => omega
            case rel => exact ⟨j + 1, k, A2, q2, rfl, by go_num, by omega, rfl, by rw [HL.out]; exact HK.out, by rw [HL.out]; exact N3.out⟩
          | false =>
            have HL := Lib.hid (stepsTo_in HX.out (by simpa using HBB.out.symm))
            have hb0 : w3.cell? ⟨w.heap.size, 0, none⟩ = some (.slice (some ⟨g1, o1, none⟩) n q1) := blk_cell (N3.out.kp.blk BX.out (no_no _)) 0
            have hcn := CN.out w3 (K1.out.no N3.out.kp)
            have hcx := (HRd.out.kpNo (K1.out.no N3.out.kp)).intAt (ints_get HX.out)
            go_wp2_with (at_builtin; refine wpl_snocI rfl (.tmp 43) (.tmp 52) rfl rfl rfl rfl N3.out HK.out (by omega) ?_; intro A3 q3 w4 n4 k4 _; have N4 := Lib.hid n4; clear n4 k4 hcx hcn hb0)
            go_roundg (m + 1 - (j + 1))
            case measure => omega
            case rel => exact ⟨j + 1, k + 1, A3, q3, rfl, by go_num, by omega, rfl, by rw [HL.out, List.length_append, ← HK.out]; rfl, by rw [HL.out]; exact N4.out⟩
        · obtain rfl : j = m := by omega
          have hd0 : ¬ (j : Int) < (j : Int) := by omega
          have HL := Lib.hid (show N = stepsTo f B u j by rw [HN.out, ← HM.out])
          clear hlt
          go_wp2_with fail
          go_ret
          exact ⟨_, rfl, by rw [HL.out]; exact NS.out.from_ K1.out⟩
end Go.Proofs.YtmipnicdlldjnaaGreatDoor

namespace Go.Proofs.YtmipnicdlldjnaaGreatDoor
set_option linter.unusedVariables false
set_option linter.unusedSimpArgs false
open Go.RowKit

theorem elB2 : ElT Tryz.prog 49 4 BoK 1 := elBo
structure OfM (f : Flr) (w0 : World) (bm bf br : Nat) (V1 V2 V3 : Value) (k1 k2 k3 : Nat) (Vs : List SlC) (w : World) : Prop where
  blk : w.heap[bm]? = some (.cells #[V1, V2, V3] 51 (0, 0))
  bx : BxW f bf w0 w
  rs : w.heap[br]? = some (.cells #[.slice none 0 0, .slice none 0 0, .slice none 0 0] 51 (0, 0))
  o1 : Own SvK 24 w V1 Vs
  o2 : Own BoK 4 w V2 (lnB f k2 k2)
  o3 : Own BoK 4 w V3 (opL f k3)
  len : Vs.length = k1
  rd : ∀ (i : Nat) v, Vs[i]? = some v → Rd IK w (slv v) (ints (nearP f i)) ∧ ∀ g, (slv v).ownBlock = some g → g ≠ bm ∧ V1.ownBlock ≠ some g ∧ V2.ownBlock ≠ some g ∧ V3.ownBlock ≠ some g ∧ g < w.heap.size ∧ g ≠ br
  n1 : ∀ g, V1.ownBlock = some g → g ≠ bm ∧ g ≠ bf ∧ g ≠ br ∧ V2.ownBlock ≠ some g ∧ V3.ownBlock ≠ some g ∧ w0.heap.size ≤ g
  n2 : ∀ g, V2.ownBlock = some g → g ≠ bm ∧ g ≠ bf ∧ g ≠ br ∧ V3.ownBlock ≠ some g ∧ w0.heap.size ≤ g
  n3 : ∀ g, V3.ownBlock = some g → g ≠ bm ∧ g ≠ bf ∧ g ≠ br ∧ w0.heap.size ≤ g
  nb : bm ≠ bf ∧ bm ≠ br ∧ w0.heap.size ≤ bm ∧ w0.heap.size ≤ br
section
variable {f : Flr} {w0 w wa w' : World} {bm bf br k1 k2 k3 : Nat} {V1 V2 V3 V' : Value} {Vs : List SlC}
theorem OfM.no (h : OfM f w0 bm bf br V1 V2 V3 k1 k2 k3 Vs w) (hk : Kp No w w') : OfM f w0 bm bf br V1 V2 V3 k1 k2 k3 Vs w' :=
  ⟨hk.blk h.blk (no_no _), h.bx.no hk, hk.blk h.rs (no_no _), h.o1.kpNo hk, h.o2.kpNo hk, h.o3.kpNo hk, h.len, fun i v hv => ⟨(h.rd i v hv).1.kpNo hk, fun g hg => let ⟨a, b, c, d, e⟩ := (h.rd i v hv).2 g hg; ⟨a, b, c, d, Nat.lt_of_lt_of_le e.1 hk.size, e.2⟩⟩, h.n1, h.n2, h.n3, h.nb⟩
theorem OfM.c0 (h : OfM f w0 bm bf br V1 V2 V3 k1 k2 k3 Vs w) : w.cell? ⟨bm, 0, none⟩ = some V1 := blk_cell h.blk 0
theorem OfM.c1 (h : OfM f w0 bm bf br V1 V2 V3 k1 k2 k3 Vs w) : w.cell? ⟨bm, 1, none⟩ = some V2 := blk_cell h.blk 1
theorem OfM.c2 (h : OfM f w0 bm bf br V1 V2 V3 k1 k2 k3 Vs w) : w.cell? ⟨bm, 2, none⟩ = some V3 := blk_cell h.blk 2
theorem OfM.fz (h : OfM f w0 bm bf br V1 V2 V3 k1 k2 k3 Vs w) (i : Nat) : w.frozen? ⟨bm, i, none⟩ = false := blk_free h.blk i
theorem OfM.lts (h : OfM f w0 bm bf br V1 V2 V3 k1 k2 k3 Vs w) : bm < w.heap.size ∧ bf < w.heap.size ∧ br < w.heap.size ∧ w0.heap.size ≤ w.heap.size := ⟨lt_of_block h.blk, lt_of_block h.bx.box, lt_of_block h.rs, h.bx.kp.size⟩
/-- What an append to the first list leaves. -/
theorem OfM.app1 (h : OfM f w0 bm bf br V1 V2 V3 k1 k2 k3 Vs w) {v : SlC} (hv : Rd IK w (slv v) (ints (nearP f k1))) (hb : ∀ g, (slv v).ownBlock = some g → g ≠ bm ∧ V1.ownBlock ≠ some g ∧ V2.ownBlock ≠ some g ∧ V3.ownBlock ≠ some g ∧ g < w.heap.size ∧ g ≠ br)
    (ho : Own SvK 24 w' V' (Vs ++ [v])) (hk : Kp (fun k => V1.ownBlock = some k) w w') (hn : ∀ g, V'.ownBlock = some g → V1.ownBlock = some g ∨ w.heap.size ≤ g) :
    OfM f w0 bm bf br V' V2 V3 (k1 + 1) k2 k3 (Vs ++ [v]) (w'.setCell ⟨bm, 0, none⟩ V') := by
  obtain ⟨l0, l1, l2, l3⟩ := h.lts
  have hs := (Kp.refl (fun j => j = bm) w').setCell (p := ⟨bm, 0, none⟩) (fun _ => rfl) V'
  have kk : Kp (fun j => V1.ownBlock = some j ∨ j = bm) w (w'.setCell ⟨bm, 0, none⟩ V') := (hk.mono (fun _ _ e => .inl e)).trans' hs (fun j _ e => .inr e)
  have m0 : ¬ V1.ownBlock = some bm := fun e => (h.n1 _ e).1 rfl
  have all_ : ∀ v : SlC, ∀ l, Rd IK w (slv v) l → (∀ g, (slv v).ownBlock = some g → g ≠ bm ∧ V1.ownBlock ≠ some g ∧ V2.ownBlock ≠ some g ∧ V3.ownBlock ≠ some g ∧ g < w.heap.size ∧ g ≠ br) →
      Rd IK (w'.setCell ⟨bm, 0, none⟩ V') (slv v) l ∧ ∀ g, (slv v).ownBlock = some g → g ≠ bm ∧ V'.ownBlock ≠ some g ∧ V2.ownBlock ≠ some g ∧ V3.ownBlock ≠ some g ∧ g < (w'.setCell ⟨bm, 0, none⟩ V').heap.size ∧ g ≠ br := fun v l a b => by
    refine ⟨a.kp kk ?_, fun g hg => ?_⟩
    · rintro g hg (e | e)
      · exact (b g hg).2.1 e
      · exact (b g hg).1 e
    · obtain ⟨b1, b2, b3, b4, b5⟩ := b g hg
      refine ⟨b1, fun e => ?_, b3, b4, Nat.lt_of_lt_of_le b5.1 kk.size, b5.2⟩
      rcases hn g e with e2 | e2
      · exact b2 e2
      · omega
  refine ⟨?_, h.bx.kps kk ?_ ?_, kk.blk h.rs ?_, ho.kp hs (fun g hg e => ?_), h.o2.kp kk ?_, h.o3.kp kk ?_, by rw [List.length_append, h.len]; rfl, fun i y hy => ?_, fun g hg => ?_, h.n2, h.n3, h.nb⟩
  · have := blk_set (hk.blk h.blk m0) 0 V'; simpa using this
  · rintro (e | e)
    · exact (h.n1 _ e).2.1 rfl
    · exact h.nb.1 e.symm
  · rintro j (e | e)
    · exact (h.n1 _ e).2.2.2.2.2
    · rw [e]; exact h.nb.2.2.1
  · rintro (e | e)
    · exact (h.n1 _ e).2.2.1 rfl
    · exact h.nb.2.1 e.symm
  · rcases hn g hg with e2 | e2
    · exact (h.n1 _ e2).1 e
    · omega
  · rintro g hg (e | e)
    · exact (h.n1 _ e).2.2.2.1 hg
    · exact (h.n2 _ hg).1 e
  · rintro g hg (e | e)
    · exact (h.n1 _ e).2.2.2.2.1 hg
    · exact (h.n3 _ hg).1 e
  · rcases Nat.lt_or_ge i Vs.length with h1 | h1
    · rw [List.getElem?_append_left h1] at hy
      exact all_ y _ (h.rd i y hy).1 (h.rd i y hy).2
    · have h2 := (List.getElem?_eq_some_iff.1 hy).1
      simp at h2
      obtain rfl : i = k1 := by have := h.len; omega
      rw [← h.len] at hy
      simp at hy
      subst hy
      exact all_ _ _ hv hb
  · rcases hn g hg with e | e
    · exact h.n1 g e
    · exact ⟨by omega, by omega, by omega, fun e2 => by have := h.o2.lt e2; omega, fun e2 => by have := h.o3.lt e2; omega, by omega⟩
theorem OfM.app2 (h : OfM f w0 bm bf br V1 V2 V3 k1 k2 k3 Vs w) (ho : Own BoK 4 w' V' (lnB f (k2 + 1) (k2 + 1))) (hk : Kp (fun k => V2.ownBlock = some k) w w') (hn : ∀ g, V'.ownBlock = some g → V2.ownBlock = some g ∨ w.heap.size ≤ g) :
    OfM f w0 bm bf br V1 V' V3 k1 (k2 + 1) k3 Vs (w'.setCell ⟨bm, 1, none⟩ V') := by
  obtain ⟨l0, l1, l2, l3⟩ := h.lts
  have hs := (Kp.refl (fun j => j = bm) w').setCell (p := ⟨bm, 1, none⟩) (fun _ => rfl) V'
  have kk : Kp (fun j => V2.ownBlock = some j ∨ j = bm) w (w'.setCell ⟨bm, 1, none⟩ V') := (hk.mono (fun _ _ e => .inl e)).trans' hs (fun j _ e => .inr e)
  have m0 : ¬ V2.ownBlock = some bm := fun e => (h.n2 _ e).1 rfl
  refine ⟨?_, h.bx.kps kk ?_ ?_, kk.blk h.rs ?_, h.o1.kp kk ?_, ho.kp hs (fun g hg e => ?_), h.o3.kp kk ?_, h.len, fun i y hy => ?_, fun g hg => ?_, fun g hg => ?_, h.n3, h.nb⟩
  · have := blk_set (hk.blk h.blk m0) 1 V'; simpa using this
  · rintro (e | e)
    · exact (h.n2 _ e).2.1 rfl
    · exact h.nb.1 e.symm
  · rintro j (e | e)
    · exact (h.n2 _ e).2.2.2.2
    · rw [e]; exact h.nb.2.2.1
  · rintro (e | e)
    · exact (h.n2 _ e).2.2.1 rfl
    · exact h.nb.2.1 e.symm
  · rintro g hg (e | e)
    · exact (h.n1 _ hg).2.2.2.1 e
    · exact (h.n1 _ hg).1 e
  · rcases hn g hg with e2 | e2
    · exact (h.n2 _ e2).1 e
    · omega
  · rintro g hg (e | e)
    · exact (h.n2 _ e).2.2.2.1 hg
    · exact (h.n3 _ hg).1 e
  · obtain ⟨a, b⟩ := h.rd i y hy
    refine ⟨a.kp kk ?_, fun g hg => ?_⟩
    · rintro g hg (e | e)
      · exact (b g hg).2.2.1 e
      · exact (b g hg).1 e
    · obtain ⟨b1, b2, b3, b4, b5⟩ := b g hg
      refine ⟨b1, b2, fun e => ?_, b4, Nat.lt_of_lt_of_le b5.1 kk.size, b5.2⟩
      rcases hn g e with e2 | e2
      · exact b3 e2
      · omega
  · obtain ⟨a, b, c, d, e⟩ := h.n1 g hg
    refine ⟨a, b, c, fun e2 => ?_, e⟩
    rcases hn g e2 with e3 | e3
    · exact d e3
    · have := h.o1.lt hg; omega
  · rcases hn g hg with e | e
    · exact h.n2 g e
    · exact ⟨by omega, by omega, by omega, fun e2 => by have := h.o3.lt e2; omega, by omega⟩
theorem OfM.app3 (h : OfM f w0 bm bf br V1 V2 V3 k1 k2 k3 Vs w) (ho : Own BoK 4 w' V' (opL f (k3 + 1))) (hk : Kp (fun k => V3.ownBlock = some k) w w') (hn : ∀ g, V'.ownBlock = some g → V3.ownBlock = some g ∨ w.heap.size ≤ g) :
    OfM f w0 bm bf br V1 V2 V' k1 k2 (k3 + 1) Vs (w'.setCell ⟨bm, 2, none⟩ V') := by
  obtain ⟨l0, l1, l2, l3⟩ := h.lts
  have hs := (Kp.refl (fun j => j = bm) w').setCell (p := ⟨bm, 2, none⟩) (fun _ => rfl) V'
  have kk : Kp (fun j => V3.ownBlock = some j ∨ j = bm) w (w'.setCell ⟨bm, 2, none⟩ V') := (hk.mono (fun _ _ e => .inl e)).trans' hs (fun j _ e => .inr e)
  have m0 : ¬ V3.ownBlock = some bm := fun e => (h.n3 _ e).1 rfl
  refine ⟨?_, h.bx.kps kk ?_ ?_, kk.blk h.rs ?_, h.o1.kp kk ?_, h.o2.kp kk ?_, ho.kp hs (fun g hg e => ?_), h.len, fun i y hy => ?_, fun g hg => ?_, fun g hg => ?_, fun g hg => ?_, h.nb⟩
  · have := blk_set (hk.blk h.blk m0) 2 V'; simpa using this
  · rintro (e | e)
    · exact (h.n3 _ e).2.1 rfl
    · exact h.nb.1 e.symm
  · rintro j (e | e)
    · exact (h.n3 _ e).2.2.2
    · rw [e]; exact h.nb.2.2.1
  · rintro (e | e)
    · exact (h.n3 _ e).2.2.1 rfl
    · exact h.nb.2.1 e.symm
  · rintro g hg (e | e)
    · exact (h.n1 _ hg).2.2.2.2.1 e
    · exact (h.n1 _ hg).1 e
  · rintro g hg (e | e)
    · exact (h.n2 _ hg).2.2.2.1 e
    · exact (h.n2 _ hg).1 e
  · rcases hn g hg with e2 | e2
    · exact (h.n3 _ e2).1 e
    · omega
  · obtain ⟨a, b⟩ := h.rd i y hy
    refine ⟨a.kp kk ?_, fun g hg => ?_⟩
    · rintro g hg (e | e)
      · exact (b g hg).2.2.2.1 e
      · exact (b g hg).1 e
    · obtain ⟨b1, b2, b3, b4, b5⟩ := b g hg
      refine ⟨b1, b2, b3, fun e => ?_, Nat.lt_of_lt_of_le b5.1 kk.size, b5.2⟩
      rcases hn g e with e2 | e2
      · exact b4 e2
      · omega
  · obtain ⟨a, b, c, d, e, j⟩ := h.n1 g hg
    refine ⟨a, b, c, d, fun e2 => ?_, j⟩
    rcases hn g e2 with e3 | e3
    · exact e e3
    · have := h.o1.lt hg; omega
  · obtain ⟨a, b, c, d, e⟩ := h.n2 g hg
    refine ⟨a, b, c, fun e2 => ?_, e⟩
    rcases hn g e2 with e3 | e3
    · exact d e3
    · have := h.o2.lt hg; omega
  · rcases hn g hg with e | e
    · exact h.n3 g e
    · exact ⟨by omega, by omega, by omega, by omega⟩
end
theorem OfM.start (f : Flr) (w : World) : OfM f w (w.heap.size + 1 + 1) w.heap.size (w.heap.size + 1) (.slice none 0 0) (.slice none 0 0) (.slice none 0 0) 0 0 0 [] (((w.alloc (.cells #[.int .i64 f.W, .int .i64 f.H, .string f.s] 23)).alloc (.cells #[.slice none 0 0, .slice none 0 0, .slice none 0 0] 51)).alloc (.cells #[.slice none 0 0, .slice none 0 0, .slice none 0 0] 51)) := by
  refine ⟨?_, (BxW.new f w).no (((Kp.refl _ _).alloc _).alloc _), ?_, Own.nil _ _ _, Own.nil _ _ _, Own.nil _ _ _, rfl, fun i v hv => by simp at hv, fun g hg => by simp [Value.ownBlock] at hg, fun g hg => by simp [Value.ownBlock] at hg, fun g hg => by simp [Value.ownBlock] at hg, by omega⟩
  · have := blk_new ((w.alloc (.cells #[.int .i64 f.W, .int .i64 f.H, .string f.s] 23)).alloc (.cells #[.slice none 0 0, .slice none 0 0, .slice none 0 0] 51)) (.cells #[.slice none 0 0, .slice none 0 0, .slice none 0 0] 51)
    simpa using this
  · refine blk_alloc ?_ _
    have := blk_new (w.alloc (.cells #[.int .i64 f.W, .int .i64 f.H, .string f.s] 23)) (.cells #[.slice none 0 0, .slice none 0 0, .slice none 0 0] 51)
    simpa using this
/-- The map, told. -/
theorem OfM.out {f : Flr} {w0 w : World} {bm bf br n q1 q2 q3 : Nat} {A1 A2 A3 : Option Addr} {Vs : List SlC} (h : OfM f w0 bm bf br (.slice A1 n q1) (.slice A2 n q2) (.slice A3 n q3) n n n Vs w) (hn : n = mpN f) (v0 v1 v2 : Value) :
    MpW f n ⟨A1, q1, A2, q2, A3, q3⟩ Vs (((w.setCell ⟨br, 0, none⟩ v0).setCell ⟨br, 1, none⟩ v1).setCell ⟨br, 2, none⟩ v2) ∧ Kp No w0 (((w.setCell ⟨br, 0, none⟩ v0).setCell ⟨br, 1, none⟩ v1).setCell ⟨br, 2, none⟩ v2) := by
  have hs := (((Kp.refl (fun j => j = br) w).setCell (p := ⟨br, 0, none⟩) (fun _ => rfl) v0).setCell (p := ⟨br, 1, none⟩) (fun _ => rfl) v1).setCell (p := ⟨br, 2, none⟩) (fun _ => rfl) v2
  exact ⟨⟨hn, h.o1.rd.kp hs (fun g hg e => (h.n1 g hg).2.2.1 e), h.o2.rd.kp hs (fun g hg e => (h.n2 g hg).2.2.1 e), h.o3.rd.kp hs (fun g hg e => (h.n3 g hg).2.2.1 e), h.len, fun i v hv => (h.rd i v hv).1.kp hs (fun g hg e => ((h.rd i v hv).2 g hg).2.2.2.2.2 e)⟩, h.bx.kp.trans' hs (fun j hj e => by have := h.nb.2.2.2; omega)⟩
theorem lnB_snoc (f : Flr) (k : Nat) (b : Bool) (hb : b = decide (kdS f.s k = 2)) : lnB f (k + 1) (k + 1) = lnB f k k ++ [b] := by
  subst hb
  unfold lnB
  rw [List.range_succ, List.map_append]
  congr 1
  · apply List.map_congr_left
    intro i hi
    rw [List.mem_range] at hi
    rw [decide_eq_decide]; omega
  · simp
theorem opL_snoc (f : Flr) (k : Nat) (b : Bool) (hb : b = (bt f.s k != 35)) : opL f (k + 1) = opL f k ++ [b] := by
  subst hb
  unfold opL
  rw [List.range_succ, List.map_append]
  rfl
end Go.Proofs.YtmipnicdlldjnaaGreatDoor

namespace Go.Proofs.YtmipnicdlldjnaaGreatDoor
set_option linter.unusedVariables false
set_option linter.unusedSimpArgs false
open Go.RowKit

def OfR (f : Flr) (w : World) (e : Ending) (w' : World) : Prop :=
  ∃ A1 q1 A2 q2 A3 q3 Vs, e = .returned (.agg #[.slice A1 (mpN f) q1, .slice A2 (mpN f) q2, .slice A3 (mpN f) q3]) ∧ MpW f (mpN f) ⟨A1, q1, A2, q2, A3, q3⟩ Vs w' ∧ Kp No w w'
set_option maxHeartbeats 2000000 in
set_option maxRecDepth 100000 in
theorem q5Of_any (f : Flr) (hsz : f.s.size ≤ 1000000) (w : World) : Calls Tryz.prog 23 #[f.val] w (OfR f w) := by
  obtain ⟨F, hF⟩ : ∃ F, F = f := ⟨_, rfl⟩
  rw [show OfR f w = OfR F w by rw [hF]]
  have HF := Lib.hid hF
  unfold OfR
  have O0 := OfM.start F w
  cases hb : rightB f with
  | false =>
    have HRT := Lib.hid (qright_at f (by omega) false hb)
    have hn0 : mpN F = 0 := by rw [hF]; unfold mpN; rw [hb]; simp
    have HN0 := Lib.hid hn0
    rw [hn0]
    rw [hF] at O0
    obtain ⟨X, Y, s⟩ := f
    have O1 := Lib.hid O0
    unfold Flr.val at HRT ⊢
    clear hb hF hn0 hsz O0
    go_enter Tryz.func23, Tryz.ntmps23
    go_wp2_with fail
    refine (HRT.out _).mono ?_
    rintro e w1 ⟨rfl, kp1⟩
    have O2 := Lib.hid (O1.out.no kp1)
    obtain ⟨bm, hbm⟩ : ∃ b, b = w.heap.size + 1 + 1 := ⟨_, rfl⟩
    obtain ⟨br, hbr⟩ : ∃ b, b = w.heap.size + 1 := ⟨_, rfl⟩
    rw [← hbm, ← hbr] at O2 ⊢
    have hc0 := O2.out.c0; have hc1 := O2.out.c1; have hc2 := O2.out.c2
    have hf0 : w1.frozen? ⟨br, 0, none⟩ = false := blk_free O2.out.rs 0
    have hf1 : w1.frozen? ⟨br, 1, none⟩ = false := blk_free O2.out.rs 1
    have hf2 : w1.frozen? ⟨br, 2, none⟩ = false := blk_free O2.out.rs 2
    have hg0 : w1.cell? ⟨br, 0, none⟩ = some (.slice none 0 0) := blk_cell O2.out.rs 0
    have hg1 : w1.cell? ⟨br, 1, none⟩ = some (.slice none 0 0) := blk_cell O2.out.rs 1
    have hg2 : w1.cell? ⟨br, 2, none⟩ = some (.slice none 0 0) := blk_cell O2.out.rs 2
    have hs0 := fun v => box_set (i := 0) O2.out.rs (by decide) v
    have hs1 := fun v0 v => box_set (i := 1) (blk_set O2.out.rs 0 v0) (by simp) v
    have hs2 := fun v0 v1 v => box_set (i := 2) (blk_set (blk_set O2.out.rs 0 v0) 1 v1) (by simp) v
    clear kp1 hbm hbr O1
    go_wp2_with fail
    obtain ⟨m1, m2⟩ := O2.out.out (by rw [← HF.out]; exact HN0.out.symm) (.slice none 0 0) (.slice none 0 0) (.slice none 0 0)
    exact bodyPost_ret (v := .agg #[.slice none 0 0, .slice none 0 0, .slice none 0 0]) (by simp [results, Tryz.results23, go_sem, hs0, hs1, hs2]) rfl ⟨none, 0, none, 0, none, 0, _, rfl, by rw [HF.out]; exact m1, m2⟩
  | true =>
    have HRT := Lib.hid (qright_at f (by omega) true hb)
    have hn0 : mpN F = F.s.size := by rw [hF]; unfold mpN; rw [hb]; simp
    have hs256 : f.s.size ≤ 256 := (rightB_iff.1 hb).s256
    obtain ⟨n, hn⟩ : ∃ n, n = F.s.size := ⟨_, rfl⟩
    rw [← hn] at hn0
    have HN0 := Lib.hid hn0
    rw [hn0]
    rw [hF] at O0
    have HN := Lib.hid hn
    have hnI : ((f.s.size : Nat) : Int) = (n : Int) := by rw [hn, hF]
    have hn256 : n ≤ 256 := by rw [hn, hF]; exact hs256
    have HR := Lib.hid (show rightB F = true by rw [hF]; exact hb)
    obtain ⟨X, Y, s⟩ := f
    simp only at hnI
    have O1 := Lib.hid O0
    unfold Flr.val at HRT ⊢
    clear hb hF hn0 hsz O0 hn hs256
    go_enter Tryz.func23, Tryz.ntmps23
    go_wp2_with fail
    refine (HRT.out _).mono ?_
    rintro e w1 ⟨rfl, kp1⟩
    obtain ⟨bm, hbm⟩ : ∃ b, b = w.heap.size + 1 + 1 := ⟨_, rfl⟩
    obtain ⟨br, hbr⟩ : ∃ b, b = w.heap.size + 1 := ⟨_, rfl⟩
    obtain ⟨bf, hbf⟩ : ∃ b, b = w.heap.size := ⟨_, rfl⟩
    have O2 := Lib.hid (show OfM F w bm bf br (.slice none 0 0) (.slice none 0 0) (.slice none 0 0) 0 0 0 [] w1 by
      rw [hbm, hbr, hbf, HF.out]; exact O1.out.no kp1)
    rw [← hbm, ← hbr, ← hbf]
    clear kp1 hbm hbr hbf O1
    go_wp2_with fail
    go_loopg [4] (n + 1) (fun g_ iv wx => ∃ (i : Nat) (A1 : Option Addr) (q1 : Nat) (A2 : Option Addr) (q2 : Nat) (A3 : Option Addr) (q3 : Nat) (Vs : List SlC), g_ = n + 1 - i ∧ iv = .int .i64 i ∧ i ≤ n ∧ OfM F w bm bf br (.slice A1 i q1) (.slice A2 i q2) (.slice A3 i q3) i i i Vs wx)
    case atStart => exact ⟨0, none, 0, none, 0, none, 0, [], rfl, rfl, by omega, O2.out⟩
    case round =>
      obtain ⟨i, A1, q1, A2, q2, A3, q3, Vs, hg, rfl, hi, om⟩ := hrel
      have OM := Lib.hid om
      have bx : BxW ⟨X, Y, s⟩ bf w wr := by have := om.bx; rwa [HF.out] at this
      have hb0 : wr.cell? ⟨bf, 0, none⟩ = some (.int .i64 X) := bx.c0
      have hb1 : wr.cell? ⟨bf, 1, none⟩ = some (.int .i64 Y) := bx.c1
      have hb2 : wr.cell? ⟨bf, 2, none⟩ = some (.string s) := bx.c2
      clear om bx O2
      by_cases hlt : i < n
      · have hltI : (i : Int) < (n : Int) := by omega
        have hwi : IntKind.i64.wrap ((i : Int) + 1) = (i : Int) + 1 := IntWalk.i64_in _ (by omega)
        have hiF : i < F.s.size := by rw [← HN.out]; exact hlt
        obtain ⟨L, hL⟩ : ∃ L, nearP F i = L := ⟨_, rfl⟩
        have NE := Lib.hid (fun wx => show Calls Tryz.prog 42 #[F.val, .int .i64 (i : Int)] wx (RetI L wx) by
          rw [← hL]; exact (qnear_any F (by rw [← HN.out]; omega) i (by omega) wx).mono fun _ _ h => .of h)
        obtain ⟨Z, hZ⟩ : ∃ Z, zoneP F i = Z := ⟨_, rfl⟩
        obtain ⟨zi, hzi⟩ : ∃ zi : Nat, zi = Z.getD 0 := ⟨_, rfl⟩
        obtain ⟨zb, hzb⟩ : ∃ zb : Bool, zb = Z.isSome := ⟨_, rfl⟩
        have ZO := Lib.hid (fun wx => show Calls Tryz.prog 22 #[F.val, .int .i64 (i : Int)] wx fun e w' => e = .returned (.tuple #[.int .i64 (zi : Int), .bool zb]) ∧ Kp No wx w' by
          rw [hzi, hzb]
          exact (qzone_any F (by rw [← HN.out]; omega) i (by omega) wx).mono fun _ _ h => by rw [hZ] at h; exact h)
        have HZB := Lib.hid (show zb = decide (kdS F.s i = 2) by rw [hzb, ← hZ]; exact zone_isSome F i HR.out hiF)
        rw [HF.out] at NE ZO
        unfold Flr.val at NE ZO
        simp only at NE ZO
        have HL := Lib.hid hL
        have hjs : i < s.size := by have := HF.out; rw [this] at hiF; exact hiF
        have hbt := bt_at s i hjs
        obtain ⟨ob, hob⟩ : ∃ ob, ob = ((bt s i : Int) != 35) := ⟨_, rfl⟩
        have hbs : (((s[i]'hjs).toNat : Int) != 35) = ob := by rw [hbt, hob]
        have HOB := Lib.hid (show ob = (bt F.s i != 35) by
          rw [hob, HF.out]
          by_cases e : bt s i = 35
          · simp [e]
          · have h1 : ((bt s i : Int) != 35) = true := by simp; omega
            have h2 : (bt s i != 35) = true := by simp [e]
            rw [h1]; exact h2.symm)
        clear hL hZ hzi hzb hiF hlt hbt hob
        go_wp2_with fail
        refine (ZO.out _).mono ?_
        rintro e w2 ⟨rfl, kz⟩
        have O2 := Lib.hid (OM.out.no kz)
        clear kz hb0 hb1 hb2 OM
        have lb : ∀ wx k1 k2 k3 V1 V2 V3 Vs', OfM F w bm bf br V1 V2 V3 k1 k2 k3 Vs' wx → wx.cell? ⟨bf, 0, none⟩ = some (.int .i64 X) ∧ wx.cell? ⟨bf, 1, none⟩ = some (.int .i64 Y) ∧ wx.cell? ⟨bf, 2, none⟩ = some (.string s) := fun wx k1 k2 k3 V1 V2 V3 Vs' h => by
          have h0 := h.bx.c0; have h1 := h.bx.c1; have h2 := h.bx.c2
          rw [HF.out] at h0 h1 h2; exact ⟨h0, h1, h2⟩
        have LB := Lib.hid lb
        clear lb
        obtain ⟨hb0, hb1, hb2⟩ := LB.out _ _ _ _ _ _ _ _ O2.out
        have hm0 := O2.out.c0
        go_upto_region 8 with fail
        go_cut [24, 25, 26, 27, 28, 29, 30, 31] (fun _ _ _ _ _ _ _ _ wx => ∃ A1' q1' Vs', OfM F w bm bf br (.slice A1' (i + 1) q1') (.slice A2 i q2) (.slice A3 i q3) (i + 1) i i Vs' wx)
        case first =>
          go_region_law (first
            | (go_simp; go_at_call 42; refine (NE.out _).mono ?_; rintro e w3 ⟨A, q, rfl, ns⟩; have L3 := O2.out.no (w' := w3) (Kp.trans ((Kp.refl No _).drew) ns.kp); have d0 := L3.c0; have d0a : ∀ o, (w3.alloc o).cell? ⟨bm, 0, none⟩ = some (.slice A1 i q1) := fun o => (L3.no ((Kp.refl No w3).alloc o)).c0; have L3 := Lib.hid L3; have NS := Lib.hid ns; clear ns)
            | (refine stp_app elSv rfl (.tmp 25) (.tmp 29) rfl rfl rfl (v := .slice A1 i q1) (l := Vs) (m := [(A, L.length, q)]) (L3.out.no ((Kp.refl No w3).alloc _)).o1 (Rd.litAt SvK 24 w3 _ [(A, L.length, q)] rfl (by unfold maxLen; simp) _ _ rfl rfl) (by rw [L3.out.len]; unfold maxLen; simp; omega) (by rw [L3.out.len]; simp; omega) ?_; intro V4 w4 m1 m2 m3; obtain ⟨A4, q4, rfl⟩ := m1.rd.shape; rw [List.length_append, L3.out.len, List.length_singleton] at m1 m3 ⊢; have B4 := m2.blk (L3.out.no ((Kp.refl No w3).alloc _)).blk (fun e => (L3.out.n1 _ e).1 rfl); have F4 : w4.frozen? ⟨bm, 0, none⟩ = false := blk_free B4 0; have C4 : w4.cell? ⟨bm, 0, none⟩ = some (.slice A1 i q1) := blk_cell B4 0; have M1 := Lib.hid m1; have M2 := Lib.hid m2; have M3 := Lib.hid m3; clear m1 m2 m3 B4))
          all_goals
            have SZ := L3.out.lts
            have AP := Lib.hid ((L3.out.no ((Kp.refl No w3).alloc (.cells #[.slice A L.length q] 24))).app1 (v := (A, L.length, q)) (by rw [HL.out]; exact NS.out.own.rd.alloc _) (fun g hg => by
              have h1 := NS.out.ge g hg
              have h2 := NS.out.own.lt hg
              have h1 : w2.heap.size ≤ g := by simpa using h1
              obtain ⟨l0, l1, l2, l3⟩ := O2.out.lts
              exact ⟨by omega, fun e => by have := O2.out.o1.lt e; omega, fun e => by have := O2.out.o2.lt e; omega, fun e => by have := O2.out.o3.lt e; omega, by simp; omega, by omega⟩) M1.out M2.out M3.out)
            go_wp2_with fail
            go_meet
            exact ⟨_, _, _, AP.out.no ((Kp.refl No _).drewN 0)⟩
        case rest =>
          obtain ⟨A4, q4, V4, om⟩ := hcut
          have O4 := Lib.hid om
          clear om hb0 hb1 hb2 hm0 O2
          have hm1 := O4.out.c1
          have HL2 := Lib.hid (lnB_len F i i)
          have HL3 := Lib.hid (opL_len F i)
          obtain ⟨wd, hwd⟩ : ∃ x : World, x = wc := ⟨_, rfl⟩
          rw [← hwd] at O4 hm1 ⊢
          clear hwd
          go_upto_region 9 with fail
          go_cut [32, 33, 34, 35, 36, 37] (fun _ _ _ _ _ _ wx => ∃ A2' q2', OfM F w bm bf br (.slice A4 (i + 1) q4) (.slice A2' (i + 1) q2') (.slice A3 i q3) (i + 1) (i + 1) i V4 wx)
          case first =>
            go_wp2_with (at_builtin; refine wpl_append elBo rfl (.tmp 33) (.tmp 35) rfl rfl rfl (v := .slice A2 i q2) (l := lnB F i i) (m := [zb]) (O4.out.o2.alloc _) (Rd.litAt BoK 4 _ _ [zb] rfl (by unfold maxLen; simp) _ _ rfl rfl) (by rw [HL2.out]; unfold maxLen; simp; omega) (by rw [HL2.out]; simp; omega) ?_; intro V5 w5 m1 m2 m3; obtain ⟨A5, q5, rfl⟩ := m1.rd.shape; rw [List.length_append, HL2.out, List.length_singleton] at m1 m3 ⊢; rw [← lnB_snoc F i zb HZB.out] at m1; have B5 := m2.blk (O4.out.no ((Kp.refl No wd).alloc _)).blk (fun e => (O4.out.n2 _ e).1 rfl); have F5 : w5.frozen? ⟨bm, 1, none⟩ = false := blk_free B5 1; have C5 : w5.cell? ⟨bm, 1, none⟩ = some (.slice A2 i q2) := blk_cell B5 1; have AP := Lib.hid ((O4.out.no ((Kp.refl No wd).alloc _)).app2 m1 m2 m3); clear m1 m2 m3 B5)
            go_meet
            exact ⟨_, _, AP.out.no ((Kp.refl No _).drewN 0)⟩
          case rest =>
            obtain ⟨A5, q5, om⟩ := hcut
            have O5 := Lib.hid om
            clear om hm1
            obtain ⟨we, hwe⟩ : ∃ x : World, x = wc := ⟨_, rfl⟩
            rw [← hwe] at O5 ⊢
            clear hwe
            have hm2 := O5.out.c2
            obtain ⟨hb0, hb1, hb2⟩ := LB.out _ _ _ _ _ _ _ _ O5.out
            have lit := Lib.hid (show ∀ wx : World, Rd BoK (wx.alloc (.cells #[.bool ob] 4)) (.slice (some ⟨wx.heap.size, 0, none⟩) 1 1) [ob] from fun wx => Rd.litAt BoK 4 wx _ [ob] rfl (by unfold maxLen; simp) _ _ rfl rfl)
            have hm2a : ∀ o, (we.alloc o).cell? ⟨bm, 2, none⟩ = some (.slice A3 i q3) := fun o => (O5.out.no ((Kp.refl No we).alloc o)).c2
            go_upto_region 10 with fail
            go_region_law (refine stp_app elBo rfl (.tmp 39) (.tmp 45) rfl rfl rfl (v := .slice A3 i q3) (l := opL F i) (m := [ob]) (O5.out.no ((Kp.refl No we).alloc _)).o3 (lit.out we) (by rw [HL3.out]; unfold maxLen; simp; omega) (by rw [HL3.out]; simp; omega) ?_; intro V6 w6 m1 m2 m3; obtain ⟨A6, q6, rfl⟩ := m1.rd.shape; rw [List.length_append, HL3.out, List.length_singleton] at m1 m3 ⊢; rw [← opL_snoc F i ob HOB.out] at m1; have B6 := m2.blk (O5.out.no ((Kp.refl No we).alloc _)).blk (fun e => (O5.out.n3 _ e).1 rfl); have F6 : w6.frozen? ⟨bm, 2, none⟩ = false := blk_free B6 2; have C6 : w6.cell? ⟨bm, 2, none⟩ = some (.slice A3 i q3) := blk_cell B6 2; have AP := Lib.hid ((O5.out.no ((Kp.refl No we).alloc (.cells #[.bool ob] 4)).drew).app3 m1 m2 m3); clear m1 m2 m3 B6)
            all_goals
              go_wp2_with fail
              go_roundg (n + 1 - (i + 1))
              case measure => omega
              case rel => exact ⟨i + 1, A4, q4, A5, q5, A6, q6, V4, rfl, by go_num, by omega, AP.out.no ((Kp.refl No _).drewN 0)⟩
      · obtain rfl : i = n := by omega
        have hd0 : ¬ (i : Int) < (i : Int) := by omega
        have hc0 := OM.out.c0; have hc1 := OM.out.c1; have hc2 := OM.out.c2
        have hf0 : wr.frozen? ⟨br, 0, none⟩ = false := blk_free OM.out.rs 0
        have hf1 : wr.frozen? ⟨br, 1, none⟩ = false := blk_free OM.out.rs 1
        have hf2 : wr.frozen? ⟨br, 2, none⟩ = false := blk_free OM.out.rs 2
        have hg0 : wr.cell? ⟨br, 0, none⟩ = some (.slice none 0 0) := blk_cell OM.out.rs 0
        have hg1 : wr.cell? ⟨br, 1, none⟩ = some (.slice none 0 0) := blk_cell OM.out.rs 1
        have hg2 : wr.cell? ⟨br, 2, none⟩ = some (.slice none 0 0) := blk_cell OM.out.rs 2
        have hs0 := fun v => box_set (i := 0) OM.out.rs (by decide) v
        have hs1 := fun v0 v => box_set (i := 1) (blk_set OM.out.rs 0 v0) (by simp) v
        have hs2 := fun v0 v1 v => box_set (i := 2) (blk_set (blk_set OM.out.rs 0 v0) 1 v1) (by simp) v
        clear hlt
        go_wp2_with fail
        obtain ⟨m1, m2⟩ := OM.out.out HN0.out.symm (.slice A1 i q1) (.slice A2 i q2) (.slice A3 i q3)
        exact bodyPost_ret (v := .agg #[.slice A1 i q1, .slice A2 i q2, .slice A3 i q3]) (by simp [results, Tryz.results23, go_sem, hs0, hs1, hs2]) rfl ⟨A1, q1, A2, q2, A3, q3, rfl, ⟨Vs, m1⟩, m2⟩
end Go.Proofs.YtmipnicdlldjnaaGreatDoor

namespace Go.Proofs.YtmipnicdlldjnaaGreatDoor
set_option linter.unusedVariables false
set_option linter.unusedSimpArgs false
open Go.RowKit

noncomputable def farP (f : Flr) (fr : Nat) (B : List Int) (u g : Nat) : Int := if u = g then 0 else if u ≠ fr ∧ kdS f.s u ≠ 2 then -1 else dst (stepsP f u B) u g
theorem steps_of {f : Flr} {fr : Nat} {B : List Int} {u c : Nat} (h : c ∈ stepsP f fr B u) : u = fr ∨ kdS f.s u = 2 := by
  unfold stepsP at h
  split at h
  · simp at h
  · rename_i hx
    by_cases h1 : u = fr
    · exact .inl h1
    · exact .inr (Classical.byContradiction fun h2 => hx ⟨h1, h2⟩)
theorem steps_sub {f : Flr} {fr l : Nat} {B : List Int} {u c : Nat} (h : c ∈ stepsP f l B u) (hu : u = fr ∨ kdS f.s u = 2) : c ∈ stepsP f fr B u := by
  have h1 := steps_of h
  unfold stepsP at h ⊢
  rw [if_neg (by rintro ⟨a, b⟩; rcases h1 with e | e; exact a e; exact b e)] at h
  rw [if_neg (by rintro ⟨a, b⟩; rcases hu with e | e; exact a e; exact b e)]
  exact h
theorem Wk.sub {st st' : Nat → List Nat} {s k c : Nat} (h : Wk st s k c) (hs : ∀ u c, c ∈ st u → c ∈ st' u) : Wk st' s k c := by
  induction h with
  | nil => exact .nil
  | step _ hc ih => exact .step ih (hs _ _ hc)
theorem dst_self (st : Nat → List Nat) (s : Nat) : dst st s s = 0 := by
  rcases dst_isD st s s with ⟨_, h⟩ | ⟨k, h1, _, h3⟩
  · exact absurd .nil (h 0)
  · have := h3 0 .nil; omega
theorem far_self (f : Flr) (fr : Nat) (B : List Int) (g : Nat) : farP f fr B fr g = dst (stepsP f fr B) fr g := by
  unfold farP
  by_cases e : fr = g
  · subst e; rw [if_pos rfl, dst_self]
  · rw [if_neg e, if_neg (by simp)]
theorem far_iff {f : Flr} {fr : Nat} {B : List Int} {a l g i d n : Nat} (hn : dst (stepsP f fr B) fr g = (n : Int)) (ha : Wk (stepsP f fr B) fr i a) (hl : l ∈ stepsP f fr B a) (hd : i + 1 + d = n) : farP f fr B l g = (d : Int) ↔ Wk (stepsP f fr B) l d g := by
  have least : ∀ j, Wk (stepsP f fr B) fr j g → n ≤ j := by
    rcases dst_isD (stepsP f fr B) fr g with ⟨h, _⟩ | ⟨k, h, _, h3⟩
    · omega
    · obtain rfl : k = n := by omega
      exact h3
  have via : ∀ j, Wk (stepsP f fr B) l j g → d ≤ j := fun j hj => by
    have := least (i + 1 + j) ((Wk.step ha hl).trans hj); omega
  have sub : (l = fr ∨ kdS f.s l = 2) → ∀ u c, c ∈ stepsP f l B u → c ∈ stepsP f fr B u := fun hlf u c hc => by
    refine steps_sub hc ?_
    rcases steps_of hc with rfl | e
    · exact hlf
    · exact .inr e
  unfold farP
  constructor
  · intro h
    by_cases e : l = g
    · rw [if_pos e] at h
      obtain rfl : d = 0 := by omega
      subst e; exact .nil
    · rw [if_neg e] at h
      by_cases e2 : l ≠ fr ∧ kdS f.s l ≠ 2
      · rw [if_pos e2] at h; omega
      · rw [if_neg e2] at h
        have hlf : l = fr ∨ kdS f.s l = 2 := by
          by_cases h1 : l = fr
          · exact .inl h1
          · exact .inr (Classical.byContradiction fun h2 => e2 ⟨h1, h2⟩)
        rcases dst_isD (stepsP f l B) l g with ⟨h1, _⟩ | ⟨k, h1, h2, _⟩
        · omega
        · obtain rfl : k = d := by omega
          exact h2.sub (sub hlf)
  · intro hw
    by_cases e : l = g
    · rw [if_pos e]
      have := via 0 (by subst e; exact .nil)
      omega
    · rw [if_neg e]
      have hlf : l = fr ∨ kdS f.s l = 2 := by
        have : ∃ c, c ∈ stepsP f fr B l := by
          have gen : ∀ j c, Wk (stepsP f fr B) l j c → c = l ∨ ∃ c, c ∈ stepsP f fr B l := by
            intro j c h
            induction h with
            | nil => exact .inl rfl
            | step h hc ih =>
              rcases ih with rfl | ih
              · exact .inr ⟨_, hc⟩
              · exact .inr ih
          rcases gen _ _ hw with h | h
          · exact absurd h.symm e
          · exact h
        obtain ⟨c, hc⟩ := this
        exact steps_of hc
      rw [if_neg (by rintro ⟨a, b⟩; rcases hlf with h | h; exact a h; exact b h)]
      have pre : ∀ j e, Wk (stepsP f fr B) l j e → ∀ r, Wk (stepsP f fr B) e r g → j + r = d → Wk (stepsP f l B) l j e := by
        intro j e h
        induction h with
        | nil => intro r _ _; exact .nil
        | step h hc ih =>
          rename_i j2 a2 c2
          intro r hr hj
          refine .step (ih (r + 1) (.front hc hr) (by omega)) (steps_sub hc ?_)
          rcases steps_of hc with h1 | h1
          · by_cases h2 : a2 = l
            · exact .inl h2
            · exfalso
              rw [h1] at hc
              have := least (r + 1) (.front hc hr)
              omega
          · exact .inr h1
      have hg : Wk (stepsP f l B) l d g := pre d g hw 0 .nil (by omega)
      exact (dst_isD _ _ _).uniq (.inr ⟨d, rfl, hg, fun j hj => via j (hj.sub (sub hlf))⟩)
theorem FstW.walk {st : Nat → List Nat} {s g : Nat} {Q : List Nat} (h : FstW st s g Q) : ∀ k, k ≤ Q.length → Wk st s k (nd s Q k) := by
  intro k
  induction k with
  | zero => intro _; exact .nil
  | succ k ih =>
    intro hk
    obtain ⟨b, hb⟩ : ∃ b, Q[k]? = some b := ⟨_, List.getElem?_eq_getElem (by omega)⟩
    obtain ⟨_, m, hm, _⟩ := h.at_ k b hb
    rw [nd_succ hb]
    exact .step (ih (by omega)) (List.mem_of_getElem? hm)
end Go.Proofs.YtmipnicdlldjnaaGreatDoor

namespace Go.Proofs.YtmipnicdlldjnaaGreatDoor
set_option linter.unusedVariables false
set_option linter.unusedSimpArgs false
open Go.RowKit

structure QdW (w1 : World) (gd : Nat) (D : List Int) (w : World) : Prop where
  d : Blk (Value.int .i64) 3 w gd D
  ge : w1.heap.size ≤ gd
  kp : Kp No w1 w
theorem QdW.no {w1 w w' : World} {gd : Nat} {D : List Int} (h : QdW w1 gd D w) (hk : Kp No w w') : QdW w1 gd D w' := ⟨h.d.kpNo hk, h.ge, h.kp.no hk⟩
theorem QdW.set {w1 w : World} {gd : Nat} {D : List Int} (h : QdW w1 gd D w) (c : Nat) (x : Int) : QdW w1 gd (D.set c x) (w.setCell ⟨gd, c, none⟩ (.int .i64 x)) :=
  ⟨h.d.set c x, h.ge, h.kp.setCell (p := ⟨gd, c, none⟩) (fun e => by have := h.ge; have e : gd < w1.heap.size := e; omega) _⟩
theorem fill_all {D : List Int} {n : Nat} (hl : D.length = n) (h : ∀ j, j < n → D[j]? = some (-1)) : D = List.replicate n (-1 : Int) := by
  apply List.ext_getElem?
  intro i
  rw [List.getElem?_replicate]
  rcases Nat.lt_or_ge i n with h1 | h1
  · rw [if_pos h1, h i h1]
  · rw [if_neg (by omega), List.getElem?_eq_none (by omega)]

set_option maxHeartbeats 1000000 in
set_option maxRecDepth 100000 in
theorem q5MDist_any {f : Flr} {n : Nat} {M : MpC} {Vs : List SlC} {w : World} {bv : Value} {B : List Int} (h : MpW f n M Vs w) (hn : n ≤ 1000) (fr : Int) (hB : Rd IK w bv B) :
    Calls Tryz.prog 64 #[M.val n, .int .i64 fr, bv] w fun e w' => ∃ v, e = .returned v ∧ NewS IK 3 w w' v (distP f fr B) := by
  obtain ⟨w1, hw1⟩ : ∃ w1, w1 = w.alloc (.cells #[.slice M.A1 n M.q1, .slice M.A2 n M.q2, .slice M.A3 n M.q3] 51) := ⟨_, rfl⟩
  have K1 := Lib.hid (show Kp No w w1 by rw [hw1]; exact (Kp.refl _ _).alloc _)
  have BX := Lib.hid (show w1.heap[w.heap.size]? = some (.cells #[.slice M.A1 n M.q1, .slice M.A2 n M.q2, .slice M.A3 n M.q3] 51 (0, 0)) by rw [hw1]; exact blk_new w _)
  have HW1 := Lib.hid hw1
  clear hw1
  have H := Lib.hid (h.no K1.out); have HB := Lib.hid (hB.kpNo K1.out)
  have lb : ∀ wx, Kp No w1 wx → wx.cell? ⟨w.heap.size, 0, none⟩ = some (.slice M.A1 n M.q1) ∧ wx.cell? ⟨w.heap.size, 1, none⟩ = some (.slice M.A2 n M.q2) ∧ wx.cell? ⟨w.heap.size, 2, none⟩ = some (.slice M.A3 n M.q3) := fun wx hk => by
    have := hk.blk BX.out (no_no _)
    exact ⟨blk_cell this 0, blk_cell this 1, blk_cell this 2⟩
  have LB := Lib.hid lb
  clear lb
  cases hok : ptOk f fr with
  | false =>
    have QO := Lib.hid (q5open_any H.out (by omega) fr false hok)
    have HD := Lib.hid (show distP f fr B = [] by unfold distP; rw [hok]; simp)
    obtain ⟨N, hN⟩ : ∃ N, N = distP f fr B := ⟨_, rfl⟩
    rw [← hN] at HD ⊢
    obtain ⟨hb0, hb1, hb2⟩ := LB.out w1 (Kp.refl _ _)
    obtain ⟨A1, q1, A2, q2, A3, q3⟩ := M
    unfold MpC.val at QO ⊢
    simp only at hb0 hb1 hb2 QO HW1 ⊢
    clear hok h hB hN H LB BX
    go_enter Tryz.func64, Tryz.ntmps64
    go_upto_region 1 with fail
    rw [← HW1.out]
    go_wp2_with fail
    refine QO.out.mono ?_
    rintro e w2 ⟨rfl, kp2⟩
    have K2 := Lib.hid (K1.out.no kp2)
    clear kp2
    go_wp2_with fail
    go_ret
    exact ⟨_, rfl, by rw [HD.out]; exact ⟨Own.nil _ _ _, by simp [Value.ownBlock], K2.out⟩⟩
  | true =>
    obtain ⟨k, rfl, hk, hr⟩ := ptOk_nat hok
    have hnf : n = f.s.size := by rw [h.hn]; unfold mpN; rw [if_pos (rightB_iff.2 hr)]
    have QO := Lib.hid (q5open_any H.out (by omega) (k : Int) true hok)
    have HD := Lib.hid (show distP f (k : Int) B = distL (stepsP f k B) k n by unfold distP; rw [hok, hnf]; simp)
    obtain ⟨N, hN⟩ : ∃ N, N = distP f (k : Int) B := ⟨_, rfl⟩
    rw [← hN] at HD ⊢
    obtain ⟨st, hst⟩ : ∃ st, st = stepsP f k B := ⟨_, rfl⟩
    rw [← hst] at HD
    have HST := Lib.hid (show ∀ u c, u < n → c ∈ st u → c < n by
      intro u c hu hc
      rw [hst] at hc
      have := steps_sz hr (show u < f.s.size by omega) hc
      omega)
    have hkn : k < n := by omega
    have hkI : (k : Int) < (n : Int) := by omega
    have LS := Lib.hid (LvI.start (st := st) hkn)
    have hmk := run_mkI n (by omega)
    have QS := Lib.hid (fun u (hu : u < n) wx (hk : Kp No w1 wx) => show Calls Tryz.prog 45 #[M.val n, .int .i64 (u : Int), .int .i64 (k : Int), bv] wx fun e w' => ∃ v, e = .returned v ∧ NewS IK 3 wx w' v (ints (st u)) by
      rw [hst]; exact q5Steps_any (H.out.no hk) (by omega) u k hu (HB.out.kpNo hk))
    have SL := Lib.hid (show ∀ u, (st u).length ≤ 4 by intro u; rw [hst]; exact steps_len f k B u)
    obtain ⟨hb0, hb1, hb2⟩ := LB.out w1 (Kp.refl _ _)
    obtain ⟨A1, q1, A2, q2, A3, q3⟩ := M
    unfold MpC.val at QO QS ⊢
    simp only at hb0 hb1 hb2 QO QS LB HW1 ⊢
    clear hok h hB hN H BX hst hk hr hnf
    go_enter Tryz.func64, Tryz.ntmps64
    go_upto_region 1 with fail
    rw [← HW1.out]
    go_wp2_with fail
    refine QO.out.mono ?_
    rintro e w2 ⟨rfl, kp2⟩
    have K2 := Lib.hid kp2
    clear hb0 hb1 hb2 kp2
    obtain ⟨hb0, hb1, hb2⟩ := LB.out w2 K2.out
    have W3 := Lib.hid (show QdW w1 w2.heap.size (List.replicate n 0) (w2.alloc (.cells (Array.replicate n (.int .i64 0)) 3)) from
      ⟨by have h : Blk (Value.int .i64) 3 (w2.alloc (.cells ((List.replicate n (0 : Int)).map (Value.int .i64)).toArray 3)) w2.heap.size (List.replicate n 0) := blk_new w2 _
          simpa using h, K2.out.size, K2.out.alloc _⟩)
    obtain ⟨gd, hgd⟩ : ∃ gd, gd = w2.heap.size := ⟨_, rfl⟩
    rw [← hgd] at W3
    have HGD := Lib.hid hgd
    clear hgd
    go_wp2_with fail
    rw [← HGD.out]
    clear hmk hb0 hb1 hb2
    go_loopg [8] (n + 1) (fun g_ iv wx => ∃ (i : Nat) (D : List Int), g_ = n + 1 - i ∧ iv = .int .i64 i ∧ i ≤ n ∧ D.length = n ∧ (∀ j, j < i → D[j]? = some (-1)) ∧ QdW w1 gd D wx)
    case atStart => exact ⟨0, _, rfl, rfl, by omega, by simp, fun j hj => by omega, W3.out⟩
    case round =>
      obtain ⟨i, D, hg, rfl, hi, hl, hfill, qd⟩ := hrel
      have QD := Lib.hid qd; have HL := Lib.hid hl; have HF := Lib.hid hfill
      clear qd hl hfill W3
      by_cases hlt : i < n
      · have hltI : (i : Int) < (n : Int) := by omega
        have hwi : IntKind.i64.wrap ((i : Int) + 1) = (i : Int) + 1 := IntWalk.i64_in _ (by omega)
        obtain ⟨x, hx⟩ : ∃ x, D[i]? = some x := ⟨_, List.getElem?_eq_getElem (by rw [HL.out]; exact hlt)⟩
        have hcx := QD.out.d.get hx
        have hcf := QD.out.d.free i
        have Q2 := Lib.hid (QD.out.set i (-1))
        have HF2 := Lib.hid (show ∀ j, j < i + 1 → (D.set i (-1))[j]? = some (-1) from fun j hj => by
          rw [List.getElem?_set, HL.out]
          by_cases e : i = j
          · rw [if_pos e, if_pos (by omega)]
          · rw [if_neg e]; exact HF.out j (by omega))
        clear hx hlt
        go_wp2_with fail
        go_roundg (n + 1 - (i + 1))
        case measure => omega
        case rel => exact ⟨i + 1, _, rfl, by go_num, by omega, by rw [List.length_set]; exact HL.out, HF2.out, Q2.out⟩
      · obtain rfl : i = n := by omega
        have hd0 : ¬ (i : Int) < (i : Int) := by omega
        have hD := fill_all HL.out HF.out
        have qd := QD.out
        rw [hD] at qd
        have hcx := qd.d.get (i := k) (x := -1) (by rw [List.getElem?_replicate, if_pos hkn])
        have hcf := qd.d.free k
        have Q2 := Lib.hid (qd.set k 0)
        clear hlt hD qd
        go_wp2_with fail
        clear hcx hcf hd0
        obtain ⟨n, rfl⟩ : ∃ n, n = i := ⟨_, rfl⟩
        obtain ⟨wo, hwo⟩ : ∃ wo : World, wo = wr := ⟨_, rfl⟩
        rw [← hwo] at Q2 ⊢
        clear hwo QD
        go_loopg [9] (n + 1) (fun g_ mv wx => ∃ (m : Nat) (D : List Int), g_ = n + 1 - m ∧ mv = .int .i64 m ∧ m ≤ n ∧ LvI st k n m 0 D ∧ QdW w1 gd D wx)
        case atStart => exact ⟨0, _, rfl, rfl, by omega, LS.out, Q2.out⟩
        case round =>
          clear HL HF Q2
          obtain ⟨m, D, hg2, rfl, hm, lv, qd⟩ := hrel
          have LV := Lib.hid lv; have QD := Lib.hid qd
          clear lv qd
          by_cases hlt : m < n
          · have hltI : (m : Int) < (n : Int) := by omega
            have hwm : IntKind.i64.wrap ((m : Int) + 1) = (m : Int) + 1 := IntWalk.i64_in _ (by omega)
            have HMN := Lib.hid hlt
            clear hlt
            go_wp2_with fail
            obtain ⟨wa, hwa⟩ : ∃ wa : World, wa = wr := ⟨_, rfl⟩
            rw [← hwa] at QD ⊢
            clear hwa
            go_loopg [10] (n + 1) (fun g_ iv wx => ∃ (i : Nat) (D : List Int), g_ = n + 1 - i ∧ iv = .int .i64 i ∧ i ≤ n ∧ LvI st k n m i D ∧ QdW w1 gd D wx)
            case atStart => exact ⟨0, _, rfl, rfl, by omega, LV.out, QD.out⟩
            case round =>
              clear LV QD
              obtain ⟨i, D, hg3, rfl, hi, lv, qd⟩ := hrel
              have LV := Lib.hid lv; have QD := Lib.hid qd
              clear lv qd
              by_cases hlt : i < n
              · have hltI : (i : Int) < (n : Int) := by omega
                have hwi : IntKind.i64.wrap ((i : Int) + 1) = (i : Int) + 1 := IntWalk.i64_in _ (by omega)
                obtain ⟨d, hd⟩ : ∃ d, D[i]? = some d := ⟨_, List.getElem?_eq_getElem (by rw [LV.out.len]; exact hlt)⟩
                have hcd := QD.out.d.get hd
                have HIN := Lib.hid hlt
                by_cases hdm : d = (m : Int)
                · subst hdm
                  have LJ := Lib.hid (LV.out.into hd)
                  have hmb : ((m : Int) != (m : Int)) = false := by simp
                  have Q2 := Lib.hid (QS.out i hlt wr QD.out.kp)
                  obtain ⟨hb0, hb1, hb2⟩ := LB.out wr QD.out.kp
                  clear hd hlt
                  go_wp2_with fail
                  refine Q2.out.mono ?_
                  rintro e w5 ⟨vL, rfl, ns⟩
                  obtain ⟨AL, qL, rfl⟩ := ns.own.rd.shape
                  rw [ints_len] at ns ⊢
                  obtain ⟨nL, hnL⟩ : ∃ nL, nL = (st i).length := ⟨_, rfl⟩
                  rw [← hnL] at ns ⊢
                  have hL4 : nL ≤ 4 := by rw [hnL]; exact SL.out i
                  have HNL := Lib.hid hnL
                  have D5 := Lib.hid (QD.out.no ns.kp)
                  have OL := Lib.hid ns.own
                  have GL := Lib.hid (show ∀ g, (Value.slice AL nL qL).ownBlock = some g → g ≠ gd from fun g hg => by have := ns.ge g hg; have := QD.out.d.lt; omega)
                  clear ns hnL hb0 hb1 hb2 hcd Q2 hmb
                  go_wp2_with fail
                  obtain ⟨wb, hwb⟩ : ∃ wb : World, wb = wr := ⟨_, rfl⟩
                  clear hwb
                  go_loopg [12] (nL + 1) (fun g_ jv wx => ∃ (j : Nat) (D : List Int), g_ = nL + 1 - j ∧ jv = .int .i64 j ∧ j ≤ nL ∧ LvJ st k n m i j D ∧ QdW w1 gd D wx ∧ Own IK 3 wx (.slice AL nL qL) (ints (st i)))
                  case atStart => exact ⟨0, _, rfl, rfl, by omega, LJ.out, D5.out, OL.out⟩
                  case round =>
                    clear LV QD LJ D5 OL
                    obtain ⟨j, D, hg4, rfl, hj, lj, qd, ol⟩ := hrel
                    have LJ := Lib.hid lj; have QD := Lib.hid qd; have OL := Lib.hid ol
                    clear lj qd ol
                    by_cases hlt : j < nL
                    · have hltJ : (j : Int) < (nL : Int) := by omega
                      have hwj : IntKind.i64.wrap ((j : Int) + 1) = (j : Int) + 1 := IntWalk.i64_in _ (by omega)
                      obtain ⟨c, hc⟩ : ∃ c, (st i)[j]? = some c := ⟨_, List.getElem?_eq_getElem (by rw [← HNL.out]; exact hlt)⟩
                      have hcn : c < n := HST.out i c HIN.out (List.mem_of_getElem? hc)
                      have hcI : (c : Int) < (n : Int) := by omega
                      rcases OL.out.b with ⟨hv, _⟩ | ⟨gL, capL, hv, _, _, _⟩
                      · simp only [Value.slice.injEq] at hv; omega
                      simp only [Value.slice.injEq] at hv
                      obtain ⟨rfl, hzz, rfl⟩ := hv
                      clear hzz
                      have hcc : wr.cell? ⟨gL, j, none⟩ = some (.int .i64 (c : Int)) := by have := OL.out.rd.intAt (ints_get hc); simpa using this
                      obtain ⟨d, hd⟩ : ∃ d, D[c]? = some d := ⟨_, List.getElem?_eq_getElem (by rw [LJ.out.v.len]; exact hcn)⟩
                      have hcd : wr.cell? ⟨gd, c, none⟩ = some (.int .i64 d) := QD.out.d.get hd
                      by_cases hd0 : d < 0
                      · have LJ2 := Lib.hid (LJ.out.put hc hcn hd hd0)
                        have Q2 := Lib.hid (QD.out.set c ((m : Int) + 1))
                        have O2 := Lib.hid (OL.out.kp ((Kp.refl (fun b => b = gd) wr).setCell (p := ⟨gd, c, none⟩) (fun _ => rfl) (.int .i64 ((m : Int) + 1))) (fun g hg e => GL.out g hg e))
                        have hcf := QD.out.d.free c
                        clear hc hcn hd hlt
                        go_wp2_with fail
                        go_roundg (nL + 1 - (j + 1))
                        case measure => omega
                        case rel => exact ⟨j + 1, _, rfl, by go_num, by omega, LJ2.out, Q2.out, O2.out⟩
                      · have LJ2 := Lib.hid (LJ.out.skip hc hd (by omega))
                        clear hc hcn hd hlt
                        go_wp2_with fail
                        go_roundg (nL + 1 - (j + 1))
                        case measure => omega
                        case rel => exact ⟨j + 1, _, rfl, by go_num, by omega, LJ2.out, QD.out, OL.out⟩
                    · obtain rfl : j = nL := by omega
                      have hd0 : ¬ (j : Int) < (j : Int) := by omega
                      have LV2 := Lib.hid ((show LvJ st k n m i (st i).length D by rw [← HNL.out]; exact LJ.out).done)
                      clear hlt
                      go_wp2_with fail
                      go_roundg (n + 1 - (i + 1))
                      case measure => have := HIN.out; omega
                      case rel => exact ⟨i + 1, D, rfl, by go_num, by have := HIN.out; omega, LV2.out, QD.out⟩
                · have hmb : (d != (m : Int)) = true := by simpa using hdm
                  have LV2 := Lib.hid (LV.out.skip (by rw [hd]; simpa using hdm))
                  clear hd hdm hlt
                  go_wp2_with fail
                  go_roundg (n + 1 - (i + 1))
                  case measure => have := HIN.out; omega
                  case rel => exact ⟨i + 1, D, rfl, by go_num, by have := HIN.out; omega, LV2.out, QD.out⟩
              · obtain rfl : i = n := by omega
                have hd0 : ¬ (i : Int) < (i : Int) := by omega
                have LV2 := Lib.hid LV.out.next
                clear hlt
                go_wp2_with fail
                go_roundg (i + 1 - (m + 1))
                case measure => have := HMN.out; omega
                case rel => exact ⟨m + 1, D, rfl, by go_num, by have := HMN.out; omega, LV2.out, QD.out⟩
          · obtain rfl : m = n := by omega
            have hd0 : ¬ (m : Int) < (m : Int) := by omega
            have HE := Lib.hid (LV.out.dl hkn HST.out)
            have HLn := Lib.hid LV.out.len
            clear hlt
            go_wp2_with fail
            go_ret
            refine ⟨_, rfl, ?_⟩
            have := QD.out.d.newI (w0 := w) (by have := K1.out.size; have := QD.out.ge; omega) (K1.out.no QD.out.kp) (by rw [HLn.out]; omega)
            rw [HLn.out] at this
            rw [HD.out, ← HE.out]; exact this
end Go.Proofs.YtmipnicdlldjnaaGreatDoor

namespace Go.Proofs.YtmipnicdlldjnaaGreatDoor
set_option linter.unusedVariables false
set_option linter.unusedSimpArgs false
open Go.RowKit

theorem boxM (w : World) (v1 v2 v3 : Value) : (w.alloc (.cells #[v1, v2, v3] 51)).heap[w.heap.size]? = some (.cells #[v1, v2, v3] 51 (0, 0)) := blk_new w _
set_option maxHeartbeats 1000000 in
set_option maxRecDepth 100000 in
theorem q5far_any {f : Flr} {n : Nat} {M : MpC} {Vs : List SlC} {w : World} {bv : Value} {B : List Int} (h : MpW f n M Vs w) (hn : n ≤ 1000) (u fr g : Nat) (hok : ptOk f fr = true) (hu : u < n) (hg : g < n) (hB : Rd IK w bv B) (x : Int) (hx : x = farP f fr B u g) :
    Calls Tryz.prog 44 #[M.val n, .int .i64 (u : Int), .int .i64 (fr : Int), .int .i64 (g : Int), bv] w fun e w' => e = .returned (.int .i64 x) ∧ Kp No w w' := by
  obtain ⟨w1, hw1⟩ : ∃ w1, w1 = w.alloc (.cells #[.slice M.A1 n M.q1, .slice M.A2 n M.q2, .slice M.A3 n M.q3] 51) := ⟨_, rfl⟩
  have K1 := Lib.hid (show Kp No w w1 by rw [hw1]; exact (Kp.refl _ _).alloc _)
  have BX := Lib.hid (show w1.heap[w.heap.size]? = some (.cells #[.slice M.A1 n M.q1, .slice M.A2 n M.q2, .slice M.A3 n M.q3] 51 (0, 0)) by rw [hw1]; exact blk_new w _)
  have HW1 := Lib.hid hw1
  clear hw1
  have H := Lib.hid (h.no K1.out); have HB := Lib.hid (hB.kpNo K1.out)
  have hb0 : w1.cell? ⟨w.heap.size, 0, none⟩ = some (.slice M.A1 n M.q1) := blk_cell BX.out 0
  have hb1 : w1.cell? ⟨w.heap.size, 1, none⟩ = some (.slice M.A2 n M.q2) := blk_cell BX.out 1
  have hb2 : w1.cell? ⟨w.heap.size, 2, none⟩ = some (.slice M.A3 n M.q3) := blk_cell BX.out 2
  unfold farP at hx
  by_cases e1 : u = g
  · subst e1
    rw [if_pos rfl] at hx
    have HX := Lib.hid hx
    obtain ⟨A1, q1, A2, q2, A3, q3⟩ := M
    unfold MpC.val
    simp only at hb0 hb1 hb2 HW1 ⊢
    clear h hx hok hB H BX
    go_enter Tryz.func44, Tryz.ntmps44
    go_upto_region 1 with fail
    rw [← HW1.out]
    go_wp2_with fail
    go_ret
    exact ⟨by rw [HX.out]; rfl, K1.out⟩
  · rw [if_neg e1] at hx
    have e1b : ((u : Int) == (g : Int)) = false := by simp; omega
    obtain ⟨lb, hlb⟩ : ∃ b, b = decide (kdS f.s u = 2) := ⟨_, rfl⟩
    have hlg := lnB_get (f := f) (k := n) hu
    rw [show decide (u < n ∧ kdS f.s u = 2) = lb by rw [hlb]; simp [hu]] at hlg
    obtain ⟨g2, o2, hA2⟩ := h.ln.some_ (by omega)
    have hln := h.ln
    rw [hA2] at hln
    have hcl := (hln.kpNo K1.out).one BoK1 hlg
    obtain ⟨db, hdb⟩ : ∃ b, b = ((u : Int) != (fr : Int)) := ⟨_, rfl⟩
    have hdbI := hdb.symm
    have huI : (u : Int) < (n : Int) := by omega
    by_cases e2 : u ≠ fr ∧ kdS f.s u ≠ 2
    · rw [if_pos e2] at hx
      obtain rfl : lb = false := by rw [hlb]; simp [e2.2]
      obtain rfl : db = true := by rw [hdb]; simp; omega
      have HX := Lib.hid hx
      obtain ⟨A1, q1, A2, q2, A3, q3⟩ := M
      simp only at hA2
      subst hA2
      unfold MpC.val
      simp only at hb0 hb1 hb2 HW1 ⊢
      clear h hx hok hB H BX e1 e2 hlb hdb hln hlg hu hg
      go_enter Tryz.func44, Tryz.ntmps44
      go_upto_region 1 with fail
      rw [← HW1.out]
      go_wp2_with fail
      go_ret
      exact ⟨by rw [HX.out]; rfl, K1.out⟩
    · rw [if_neg e2] at hx
      obtain ⟨k, hk1, hk2, hr⟩ := ptOk_nat hok
      have hnf : n = f.s.size := by rw [h.hn]; unfold mpN; rw [if_pos (rightB_iff.2 hr)]
      have hlf : u = fr ∨ kdS f.s u = 2 := by
        by_cases h1 : u = fr
        · exact .inl h1
        · exact .inr (Classical.byContradiction fun h2 => e2 ⟨h1, h2⟩)
      have hou : ptOk f (u : Int) = true := by
        rcases hlf with rfl | h2
        · exact hok
        · unfold ptOk
          rw [rightB_iff.2 hr]
          have h3 : (u : Int) < (f.s.size : Int) := by omega
          simp [h3]
          rintro h4
          unfold kdS at h2; rw [h4] at h2; simp [kindB] at h2
      have HD := Lib.hid (show distP f (u : Int) B = distL (stepsP f u B) u n by unfold distP; rw [hou, hnf]; simp)
      have QD := Lib.hid (q5MDist_any H.out hn (u : Int) HB.out)
      have hcase : (db = true ∧ lb = true) ∨ db = false := by
        cases hd : db with
        | true =>
          left
          refine ⟨rfl, ?_⟩
          rw [hdb] at hd; simp at hd
          rw [hlb]; simp
          rcases hlf with h1 | h1
          · omega
          · exact h1
        | false => exact .inr rfl
      have hgI : (g : Int) < (n : Int) := by omega
      have HX := Lib.hid hx
      obtain ⟨A1, q1, A2, q2, A3, q3⟩ := M
      simp only at hA2
      subst hA2
      unfold MpC.val at QD ⊢
      simp only at hb0 hb1 hb2 HW1 QD ⊢
      clear h hx hok hB H BX e1 e2 hlb hdb hln hlg hu hk1 hk2 hr hlf hou hnf
      rcases hcase with ⟨rfl, rfl⟩ | rfl
      all_goals
        go_enter Tryz.func44, Tryz.ntmps44
        go_upto_region 1 with fail
        rw [← HW1.out]
        go_wp2_with fail
        refine QD.out.mono ?_
        rintro e w2 ⟨v, rfl, ns⟩
        obtain ⟨A, q, rfl⟩ := ns.own.rd.shape
        have K2 := Lib.hid (K1.out.no ns.kp)
        rw [HD.out, distL_len] at ns ⊢
        rcases ns.own.b with ⟨hv, _⟩ | ⟨gL, capL, hv, _, _, _⟩
        · simp only [Value.slice.injEq] at hv; omega
        simp only [Value.slice.injEq] at hv
        obtain ⟨rfl, hzz, rfl⟩ := hv
        clear hzz
        have hcx : w2.cell? ⟨gL, g, none⟩ = some (.int .i64 x) := by
          have := ns.own.rd.intAt (distL_get (st := stepsP f u B) (s := u) hg)
          rw [← HX.out] at this
          simpa using this
        clear ns
        go_wp2_with fail
        go_ret
        exact ⟨rfl, K2.out⟩
end Go.Proofs.YtmipnicdlldjnaaGreatDoor

namespace Go.Proofs.YtmipnicdlldjnaaGreatDoor
set_option linter.unusedVariables false
set_option linter.unusedSimpArgs false
open Go.RowKit

set_option maxHeartbeats 1000000 in
set_option maxRecDepth 100000 in
theorem q5MFind_arg {f : Flr} {n : Nat} {M : MpC} {Vs : List SlC} {w : World} {bv : Value} (h : MpW f n M Vs w) (hn : n ≤ 1000) (fr g : Int) (hx : ptOk f fr = false ∨ ptOk f g = false) :
    Calls Tryz.prog 24 #[M.val n, .int .i64 fr, .int .i64 g, bv] w fun e w' => e = .returned (.tuple #[.slice none 0 0, .int .i64 1]) ∧ Kp No w w' := by
  obtain ⟨w1, hw1⟩ : ∃ w1, w1 = w.alloc (.cells #[.slice M.A1 n M.q1, .slice M.A2 n M.q2, .slice M.A3 n M.q3] 51) := ⟨_, rfl⟩
  have K1 := Lib.hid (show Kp No w w1 by rw [hw1]; exact (Kp.refl _ _).alloc _)
  have BX := Lib.hid (show w1.heap[w.heap.size]? = some (.cells #[.slice M.A1 n M.q1, .slice M.A2 n M.q2, .slice M.A3 n M.q3] 51 (0, 0)) by rw [hw1]; exact blk_new w _)
  have HW1 := Lib.hid hw1
  clear hw1
  have H := Lib.hid (h.no K1.out)
  have lb : ∀ wx, Kp No w1 wx → wx.cell? ⟨w.heap.size, 0, none⟩ = some (.slice M.A1 n M.q1) ∧ wx.cell? ⟨w.heap.size, 1, none⟩ = some (.slice M.A2 n M.q2) ∧ wx.cell? ⟨w.heap.size, 2, none⟩ = some (.slice M.A3 n M.q3) := fun wx hk => by
    have := hk.blk BX.out (no_no _)
    exact ⟨blk_cell this 0, blk_cell this 1, blk_cell this 2⟩
  have LB := Lib.hid lb
  clear lb
  obtain ⟨b1, hb1⟩ : ∃ b, ptOk f fr = b := ⟨_, rfl⟩
  obtain ⟨b2, hb2⟩ : ∃ b, ptOk f g = b := ⟨_, rfl⟩
  have Q1 := Lib.hid (q5open_any H.out (by omega) fr b1 hb1)
  have Q2 := Lib.hid (fun wx (hk : Kp No w1 wx) => q5open_any (H.out.no hk) (by omega) g b2 hb2)
  obtain ⟨hc0, hc1, hc2⟩ := LB.out w1 (Kp.refl _ _)
  obtain ⟨A1, q1, A2, q2, A3, q3⟩ := M
  unfold MpC.val at Q1 Q2 ⊢
  simp only at hc0 hc1 hc2 HW1 Q1 Q2 LB ⊢
  rw [hb1, hb2] at hx
  clear h H BX hb1 hb2
  cases b1 with
  | false =>
    go_enter Tryz.func24, Tryz.ntmps24
    go_upto_region 1 with fail
    rw [← HW1.out]
    go_wp2_with fail
    refine Q1.out.mono ?_
    rintro e w2 ⟨rfl, kp2⟩
    have K2 := Lib.hid (K1.out.no kp2)
    clear kp2
    go_wp2_with fail
    go_ret2
    exact ⟨rfl, K2.out⟩
  | true =>
    obtain rfl : b2 = false := by rcases hx with h | h; simp at h; exact h
    clear hx
    go_enter Tryz.func24, Tryz.ntmps24
    go_upto_region 1 with fail
    rw [← HW1.out]
    go_wp2_with fail
    refine Q1.out.mono ?_
    rintro e w2 ⟨rfl, kp2⟩
    have K2 := Lib.hid kp2
    clear kp2 hc0 hc1 hc2
    obtain ⟨hc0, hc1, hc2⟩ := LB.out w2 K2.out
    go_wp2_with fail
    refine (Q2.out w2 K2.out).mono ?_
    rintro e w3 ⟨rfl, kp3⟩
    have K3 := Lib.hid (K1.out.no (K2.out.no kp3))
    clear kp3
    go_wp2_with fail
    go_ret2
    exact ⟨rfl, K3.out⟩
set_option maxHeartbeats 2000000 in
set_option maxRecDepth 100000 in
theorem q5MFind_any {f : Flr} {n : Nat} {M : MpC} {Vs : List SlC} {w : World} {bv : Value} {B : List Int} (h : MpW f n M Vs w) (hn : n ≤ 1000) (fr g : Nat) (hok : ptOk f fr = true) (hog : ptOk f g = true) (hB : Rd IK w bv B) (d : Int) (hd : d = dst (stepsP f fr B) fr g) (Q : List Nat) (hQ : d < 0 ∨ FstW (stepsP f fr B) fr g Q ∧ d = Q.length) :
    Calls Tryz.prog 24 #[M.val n, .int .i64 (fr : Int), .int .i64 (g : Int), bv] w fun e w' => (d < 0 ∧ e = .returned (.tuple #[.slice none 0 0, .int .i64 2]) ∧ Kp No w w') ∨ ∃ A q, d = (List.length Q : Int) ∧ e = .returned (.tuple #[.slice A Q.length q, .int .i64 0]) ∧ NewS IK 3 w w' (.slice A Q.length q) (ints Q) := by
  obtain ⟨w1, hw1⟩ : ∃ w1, w1 = w.alloc (.cells #[.slice M.A1 n M.q1, .slice M.A2 n M.q2, .slice M.A3 n M.q3] 51) := ⟨_, rfl⟩
  have K1 := Lib.hid (show Kp No w w1 by rw [hw1]; exact (Kp.refl _ _).alloc _)
  have BX := Lib.hid (show w1.heap[w.heap.size]? = some (.cells #[.slice M.A1 n M.q1, .slice M.A2 n M.q2, .slice M.A3 n M.q3] 51 (0, 0)) by rw [hw1]; exact blk_new w _)
  have HW1 := Lib.hid hw1
  clear hw1
  have H := Lib.hid (h.no K1.out); have HB := Lib.hid (hB.kpNo K1.out)
  have lb : ∀ wx, Kp No w1 wx → wx.cell? ⟨w.heap.size, 0, none⟩ = some (.slice M.A1 n M.q1) ∧ wx.cell? ⟨w.heap.size, 1, none⟩ = some (.slice M.A2 n M.q2) ∧ wx.cell? ⟨w.heap.size, 2, none⟩ = some (.slice M.A3 n M.q3) := fun wx hk => by
    have := hk.blk BX.out (no_no _)
    exact ⟨blk_cell this 0, blk_cell this 1, blk_cell this 2⟩
  have LB := Lib.hid lb
  clear lb
  obtain ⟨k, hk1, hk2, hr⟩ := ptOk_nat hok
  obtain rfl : fr = k := by omega
  obtain ⟨k', hk1', hk2', _⟩ := ptOk_nat hog
  obtain rfl : g = k' := by omega
  have hnf : n = f.s.size := by rw [h.hn]; unfold mpN; rw [if_pos (rightB_iff.2 hr)]
  have hfn : fr < n := by omega
  have hgn : g < n := by omega
  obtain ⟨st, hst⟩ : ∃ st, st = stepsP f fr B := ⟨_, rfl⟩
  rw [← hst] at hd hQ
  have HSZ := Lib.hid (show ∀ u c, u < n → c ∈ st u → c < n by
    intro u c hu hc
    rw [hst] at hc
    have := steps_sz hr (show u < f.s.size by omega) hc
    omega)
  have SL := Lib.hid (show ∀ u, (st u).length ≤ 4 by intro u; rw [hst]; exact steps_len f fr B u)
  have Q1 := Lib.hid (q5open_any H.out (by omega) (fr : Int) true hok)
  have Q2 := Lib.hid (fun wx (hk : Kp No w1 wx) => q5open_any (H.out.no hk) (by omega) (g : Int) true hog)
  have F0 := Lib.hid (fun wx (hk : Kp No w1 wx) => q5far_any (H.out.no hk) hn fr fr g hok hfn hgn (HB.out.kpNo hk) d (by rw [hd, far_self, hst]))
  have FA := Lib.hid (fun wx (hk : Kp No w1 wx) u (hu : u < n) x hx => q5far_any (H.out.no hk) hn u fr g hok hu hgn (HB.out.kpNo hk) x hx)
  have FI := Lib.hid (fun a l i e (hn : dst (stepsP f fr B) fr g = ((List.length Q : Nat) : Int)) => far_iff (a := a) (l := l) (i := i) (d := e) hn)
  rw [← hst] at FI
  have QS := Lib.hid (fun u (hu : u < n) wx (hk : Kp No w1 wx) => show Calls Tryz.prog 45 #[M.val n, .int .i64 (u : Int), .int .i64 (fr : Int), bv] wx fun e w' => ∃ v, e = .returned v ∧ NewS IK 3 wx w' v (ints (st u)) by
    rw [hst]; exact q5Steps_any (H.out.no hk) (by omega) u fr hu (HB.out.kpNo hk))
  obtain ⟨hc0, hc1, hc2⟩ := LB.out w1 (Kp.refl _ _)
  obtain ⟨A1, q1, A2, q2, A3, q3⟩ := M
  unfold MpC.val at Q1 Q2 F0 FA QS ⊢
  simp only at hc0 hc1 hc2 HW1 Q1 Q2 F0 FA QS LB ⊢
  have HD := Lib.hid hd; have HQ := Lib.hid hQ; have HFN := Lib.hid hfn
  clear h H BX HB hB hok hog hk1 hk2 hr hk1' hk2' hst hd hnf hfn hgn
  go_enter Tryz.func24, Tryz.ntmps24
  go_upto_region 1 with fail
  rw [← HW1.out]
  go_wp2_with fail
  refine Q1.out.mono ?_
  rintro e w2 ⟨rfl, kp2⟩
  have K2 := Lib.hid kp2
  clear kp2 hc0 hc1 hc2
  obtain ⟨hc0, hc1, hc2⟩ := LB.out w2 K2.out
  go_wp2_with fail
  refine (Q2.out w2 K2.out).mono ?_
  rintro e w3 ⟨rfl, kp3⟩
  have K3 := Lib.hid (K2.out.no kp3)
  clear kp3 hc0 hc1 hc2
  obtain ⟨hc0, hc1, hc2⟩ := LB.out w3 K3.out
  go_wp2_with fail
  refine (F0.out w3 K3.out).mono ?_
  rintro e w4 ⟨rfl, kp4⟩
  have K4 := Lib.hid (K3.out.no kp4)
  clear kp4 hc0 hc1 hc2 Q1 Q2
  by_cases h0 : d < 0
  · clear hQ
    go_wp2_with fail
    go_ret2
    exact .inl ⟨h0, rfl, K1.out.no K4.out⟩
  · obtain ⟨fs, hdl⟩ := hQ.resolve_left h0
    have FS := Lib.hid fs
    obtain ⟨qn, hqn⟩ : ∃ qn, qn = Q.length := ⟨_, rfl⟩
    have HQN := Lib.hid hqn
    have hdq : d = (qn : Int) := by rw [hdl, hqn]
    have HDQ := Lib.hid hdq
    have hq1 : qn ≤ 1000 := by
      rcases dst_isD st fr g with ⟨h1, _⟩ | ⟨k, h1, h2, h3⟩
      · have := HD.out; omega
      · have := short_lt HFN.out HSZ.out h2 h3
        have := HD.out; omega
    subst hdq
    have HSL := Lib.hid (show ∀ k a, Wk st fr k a → a < n from fun k a hw => by
      induction hw with
      | nil => exact HFN.out
      | step _ hc ih => exact HSZ.out _ _ ih hc)
    clear hQ fs hdl hqn
    go_wp2_with fail
    go_loopg [10, 11, 12] (qn + 1) (fun g_ nv ov av wx => ∃ (i : Nat) (A : Option Addr) (q : Nat), g_ = qn + 1 - i ∧ i ≤ qn ∧ av = .int .i64 (nd fr Q i : Nat) ∧ ov = .slice A i q ∧ nv = .int .i64 ((qn : Int) - (i : Int)) ∧ NewS IK 3 w4 wx (.slice A i q) (ints (Q.take i)))
    case atStart => exact ⟨0, none, 0, rfl, by omega, rfl, rfl, by simp, NewS.nil _ _ _⟩
    case round =>
      obtain ⟨i, A, q, hg, hi, rfl, rfl, rfl, ns⟩ := hrel
      have NS := Lib.hid ns
      have HI := Lib.hid hi
      clear ns
      by_cases hlt : i < qn
      · have hpos : (0 : Int) < (qn : Int) - (i : Int) := by omega
        have HI := Lib.hid hlt
        obtain ⟨b, hb⟩ : ∃ b, Q[i]? = some b := ⟨_, List.getElem?_eq_getElem (by rw [← HQN.out]; exact hlt)⟩
        obtain ⟨hwb, m, hm, hno⟩ := FS.out.at_ i b hb
        have hwa := FS.out.walk i (by rw [← HQN.out]; exact hi)
        have NDS := Lib.hid (nd_succ (s := fr) hb)
        have HT := Lib.hid (show Q.take (i + 1) = Q.take i ++ [b] by rw [List.take_add_one, hb]; rfl)
        obtain ⟨a, ha⟩ : ∃ a, a = nd fr Q i := ⟨_, rfl⟩
        rw [← ha] at hm hno hwa ⊢
        have han := HSL.out _ _ hwa
        have S5 := Lib.hid (QS.out a han wr (K4.out.no NS.out.kp))
        obtain ⟨hc0, hc1, hc2⟩ := LB.out wr (K4.out.no NS.out.kp)
        have HM := Lib.hid hm; have HNO := Lib.hid hno; have HWA := Lib.hid hwa; have HWB := Lib.hid hwb; have HAN := Lib.hid han
        have hwn : IntKind.i64.wrap ((qn : Int) - (i : Int) - 1) = (qn : Int) - (i : Int) - 1 := IntWalk.i64_in _ (by omega)
        clear hb hwb hm hno hwa ha han hlt hi
        go_wp2_with fail
        refine S5.out.mono ?_
        rintro e w5 ⟨vL, rfl, n5⟩
        obtain ⟨AL, qL, rfl⟩ := n5.own.rd.shape
        rw [ints_len] at n5 ⊢
        obtain ⟨nL, hnL⟩ : ∃ nL, nL = (st a).length := ⟨_, rfl⟩
        have hL4 : nL ≤ 4 := by rw [hnL]; exact SL.out a
        rw [← hnL] at n5 ⊢
        have hml : m < nL := by rw [hnL]; exact (List.getElem?_eq_some_iff.1 HM.out).1
        have HNL := Lib.hid hnL
        have NS5 := Lib.hid (NS.out.kpNo n5.kp)
        rcases n5.own.b with ⟨hv, _⟩ | ⟨gL, capL, hv, _, _, _⟩
        · simp only [Value.slice.injEq] at hv; omega
        simp only [Value.slice.injEq] at hv
        obtain ⟨rfl, hzz, rfl⟩ := hv
        clear hzz
        have OL := Lib.hid n5.own
        have K5 := Lib.hid (K4.out.no NS5.out.kp)
        clear n5 hnL hc0 hc1 hc2 S5
        have hwl : IntKind.i64.wrap ((nL : Int) - 1) = (nL : Int) - 1 := IntWalk.i64_in _ (by omega)
        have CL := Lib.hid (fun (j c : Nat) (wx : World) (hc : (st a)[j]? = some c) (hk : Kp No w5 wx) => show wx.cell? ⟨gL, j, none⟩ = some (.int .i64 (c : Int)) by have := (OL.out.kpNo hk).rd.intAt (ints_get hc); simpa using this)
        go_wp2_with fail
        go_loopg [14] (m + 1) (fun g_ jv wx => ∃ j : Nat, g_ = m + 1 - j ∧ jv = .int .i64 j ∧ j ≤ m ∧ Kp No w5 wx)
        case atStart => exact ⟨0, rfl, rfl, by omega, Kp.refl _ _⟩
        case round =>
          obtain ⟨j, hgj, rfl, hj, kj⟩ := hrel
          have KJ := Lib.hid kj
          clear kj
          obtain ⟨c, hc⟩ : ∃ c, (st a)[j]? = some c := ⟨_, List.getElem?_eq_getElem (by rw [← HNL.out]; omega)⟩
          have hcc := CL.out j c wr hc KJ.out
          have hjI : (j : Int) < (nL : Int) := by omega
          have hcn := HSZ.out _ _ HAN.out (List.mem_of_getElem? hc)
          obtain ⟨hc0, hc1, hc2⟩ := LB.out wr (K5.out.no KJ.out)
          have hwj : IntKind.i64.wrap ((j : Int) + 1) = (j : Int) + 1 := IntWalk.i64_in _ (by omega)
          obtain ⟨x, hx⟩ : ∃ x, x = farP f fr B c g := ⟨_, rfl⟩
          have FC := Lib.hid (FA.out wr.drew (K5.out.no KJ.out).drew c hcn x hx)
          obtain ⟨dd, hdd⟩ : ∃ dd, dd = qn - 1 - i := ⟨_, rfl⟩
          have hfi := FI.out a c i dd (by rw [← HD.out, HQN.out]) HWA.out (List.mem_of_getElem? hc) (by rw [← HQN.out]; have := HI.out; omega)
          by_cases hjm : j < m
          · have hjl : (j : Int) < (nL : Int) - 1 := by omega
            have HJM := Lib.hid hjm
            have hne : (x != (qn : Int) - (i : Int) - 1) = true := by
              have h1 := HNO.out j c hjm hc
              rw [← HQN.out, ← hdd] at h1
              have h2 : x ≠ (dd : Int) := by rw [hx]; exact fun e => h1 (hfi.1 e)
              have h3 := HI.out
              simp; omega
            clear hc hx hfi hcn hdd hjm
            go_wp2_with fail
            have r0 : wr.drew.cell? ⟨w.heap.size, 0, none⟩ = some (.slice A1 n q1) := hc0
            have r1 : wr.drew.cell? ⟨w.heap.size, 1, none⟩ = some (.slice A2 n q2) := hc1
            have r2 : wr.drew.cell? ⟨w.heap.size, 2, none⟩ = some (.slice A3 n q3) := hc2
            have r3 : wr.drew.cell? ⟨gL, j, none⟩ = some (.int .i64 (c : Int)) := hcc
            go_region_held3 (fun w' => w'.cell? ⟨w.heap.size, 0, none⟩ = some (.slice A1 n q1) ∧ w'.cell? ⟨w.heap.size, 1, none⟩ = some (.slice A2 n q2) ∧ w'.cell? ⟨w.heap.size, 2, none⟩ = some (.slice A3 n q3) ∧ w'.cell? ⟨gL, j, none⟩ = some (.int .i64 (c : Int)))
              (first | exact ⟨by assumption, by assumption, by assumption, by assumption⟩ | exact ⟨r0, r1, r2, r3⟩)
              (first
                | (go_at_call 44; refine FC.out.mono ?_; rintro e w6 ⟨rfl, k6⟩; have t0 := k6.cellS r0 (no_no _); have t1 := k6.cellS r1 (no_no _); have t2 := k6.cellS r2 (no_no _); have t3 := k6.cellS r3 (no_no _); have K6 := Lib.hid (KJ.out.no ((Kp.refl No wr).drew.no k6)); clear k6))
            clear r0 r1 r2 r3 t0 t1 t2 t3
            go_wp2_with fail
            go_roundg (m + 1 - (j + 1))
            case measure => omega
            case rel => exact ⟨j + 1, rfl, by go_num, by have := HJM.out; omega, K6.out.no ((Kp.refl No _).drewN 0)⟩
          · obtain rfl : j = m := by omega
            obtain rfl : b = c := by have := HM.out; rw [hc] at this; exact (Option.some.inj this).symm
            have HC := Lib.hid hc
            by_cases hml2 : (j : Int) < (nL : Int) - 1
            · have hne : (x != (qn : Int) - (i : Int) - 1) = false := by
                have h1 := HWB.out
                rw [← HQN.out, ← hdd] at h1
                have h2 : x = (dd : Int) := by rw [hx]; exact hfi.2 h1
                have h3 := HI.out
                simp; omega
              clear hc hx hfi hcn hdd hjm
              go_wp2_with fail
              have r0 : wr.drew.cell? ⟨w.heap.size, 0, none⟩ = some (.slice A1 n q1) := hc0
              have r1 : wr.drew.cell? ⟨w.heap.size, 1, none⟩ = some (.slice A2 n q2) := hc1
              have r2 : wr.drew.cell? ⟨w.heap.size, 2, none⟩ = some (.slice A3 n q3) := hc2
              have r3 : wr.drew.cell? ⟨gL, j, none⟩ = some (.int .i64 (b : Int)) := hcc
              go_region_held3 (fun w' => w'.cell? ⟨w.heap.size, 0, none⟩ = some (.slice A1 n q1) ∧ w'.cell? ⟨w.heap.size, 1, none⟩ = some (.slice A2 n q2) ∧ w'.cell? ⟨w.heap.size, 2, none⟩ = some (.slice A3 n q3) ∧ w'.cell? ⟨gL, j, none⟩ = some (.int .i64 (b : Int)))
                (first | exact ⟨by assumption, by assumption, by assumption, by assumption⟩ | exact ⟨r0, r1, r2, r3⟩)
                (first
                  | (go_at_call 44; refine FC.out.mono ?_; rintro e w6 ⟨rfl, k6⟩; have t0 := k6.cellS r0 (no_no _); have t1 := k6.cellS r1 (no_no _); have t2 := k6.cellS r2 (no_no _); have t3 := k6.cellS r3 (no_no _); have K6 := Lib.hid (KJ.out.no ((Kp.refl No wr).drew.no k6)); clear k6))
              clear r0 r1 r2 r3 t0 t1 t2
              go_wp2_with (at_builtin; refine wpl_snocI (m := i) rfl (.tmp 66) (.tmp 68) rfl rfl rfl rfl (NS5.out.kpNo (K6.out.no ((Kp.refl No _).drewN 0))) (by rw [List.length_take]; have := HQN.out; have := HI.out; omega) (by have := HI.out; omega) ?_; intro A8 q8 w8 n8 k8 _; have N8 := Lib.hid n8; clear n8 k8)
              go_roundg (qn + 1 - (i + 1))
              case measure => have := HI.out; omega
              case rel => exact ⟨i + 1, A8, q8, rfl, by have := HI.out; omega, by rw [NDS.out], rfl, by simp; omega, by rw [HT.out]; exact N8.out⟩
            · have hcc6 := hcc
              have hml3 : decide ((j : Int) < (nL : Int) - 1) = false := by simpa using hml2
              clear hc hx hfi hcn hdd hjm
              go_wp2_with fail
              go_quiet (fail)
              go_wp2_with (at_builtin; refine wpl_snocI (m := i) rfl (.tmp 66) (.tmp 68) rfl rfl rfl rfl (NS5.out.kpNo (KJ.out.no ((Kp.refl No _).drewN _))) (by rw [List.length_take]; have := HQN.out; have := HI.out; omega) (by have := HI.out; omega) ?_; intro A8 q8 w8 n8 k8 _; have N8 := Lib.hid n8; clear n8 k8)
              go_roundg (qn + 1 - (i + 1))
              case measure => have := HI.out; omega
              case rel => exact ⟨i + 1, A8, q8, rfl, by have := HI.out; omega, by rw [NDS.out], rfl, by simp; omega, by rw [HT.out]; exact N8.out⟩
      · obtain rfl : i = qn := by omega
        have hd0 : ¬ (0 : Int) < (i : Int) - (i : Int) := by omega
        have HE := Lib.hid (show Q.take i = Q by rw [HQN.out, List.take_length])
        clear hlt
        go_wp2_with fail
        go_ret2
        exact .inr ⟨by rw [HQN.out], A, q, by rw [← HQN.out]; rfl, by
          have := NS.out
          rw [HE.out] at this
          rw [← HQN.out]
          exact this.from_ (K1.out.no K4.out)⟩
end Go.Proofs.YtmipnicdlldjnaaGreatDoor

namespace Go.Proofs.YtmipnicdlldjnaaGreatDoor
set_option linter.unusedVariables false
set_option linter.unusedSimpArgs false
open Go.RowKit

/-- A search of the reference's map, with what it finds. -/
theorem q5MFind_fnd {f : Flr} {n : Nat} {M : MpC} {Vs : List SlC} {w : World} {bv : Value} {B : List Int} (h : MpW f n M Vs w) (hn : n ≤ 1000) (fr g : Nat) (hok : ptOk f fr = true) (hog : ptOk f g = true) (hB : Rd IK w bv B) {Q : List Nat} {er : Int} (hf : FndR (stepsP f fr B) fr g Q er) :
    Calls Tryz.prog 24 #[M.val n, .int .i64 (fr : Int), .int .i64 (g : Int), bv] w fun e w' => ∃ A q, e = .returned (.tuple #[.slice A Q.length q, .int .i64 er]) ∧ NewS IK 3 w w' (.slice A Q.length q) (ints Q) := by
  rcases hf with ⟨rfl, rfl, h0⟩ | ⟨rfl, hd, hf⟩
  · refine (q5MFind_any h hn fr g hok hog hB _ rfl [] (.inl h0)).mono ?_
    rintro e w' (⟨_, rfl, hk⟩ | ⟨A, q, hd, _⟩)
    · exact ⟨none, 0, rfl, (NewS.nil _ _ _).kpNo hk⟩
    · simp at hd; omega
  · refine (q5MFind_any h hn fr g hok hog hB _ rfl Q (.inr ⟨hf, hd⟩)).mono ?_
    rintro e w' (⟨h0, _⟩ | ⟨A, q, _, rfl, ns⟩)
    · omega
    · exact ⟨A, q, rfl, ns⟩
set_option maxHeartbeats 1000000 in
set_option maxRecDepth 100000 in
theorem q10Make_arg (f : Flr) (hsz : f.s.size ≤ 1000000) (robot pod fr tg : Int) (hr : robot ≤ 9223372036854775807) (hfr : fr ≤ 9223372036854775807) (htg : tg ≤ 9223372036854775807) (bv : Value) (B : List Int) (w : World) (hmk : makeB f robot pod fr tg = false) :
    Calls Tryz.prog 8 #[f.val, .int .i64 robot, .int .i64 pod, .int .i64 fr, .int .i64 tg, bv] w (MakeO f robot pod fr tg B w) := by
  have HBX := Lib.hid (BxW.new f w)
  have FIN := Lib.hid (show ∀ w', Kp No w w' → MakeO f robot pod fr tg B w (.returned (.tuple #[.slice none 0 0, .int .i64 1])) w' from fun w' hk => ⟨[], none, 0, 1, .arg hmk, rfl, (NewS.nil _ _ _).kpNo hk⟩)
  obtain ⟨D, hD⟩ : ∃ D, dockP f robot = D := ⟨_, rfl⟩
  obtain ⟨dn, hdn⟩ : ∃ z : Nat, z = D.getD 0 := ⟨_, rfl⟩
  obtain ⟨is, his⟩ : ∃ z : Bool, D.isSome = z := ⟨_, rfl⟩
  have DO := Lib.hid (show ∀ w, Calls Tryz.prog 21 #[f.val, .int .i64 robot] w fun e w' => e = .returned (.tuple #[.int .i64 (dn : Int), .bool is]) ∧ Kp No w w' from fun w => by
    have h1 := qdockOf_any f (by omega) robot w
    have e : ZVal (dockP f robot) = .tuple #[.int .i64 (dn : Int), .bool is] := by unfold ZVal; rw [hD, ← hdn, his]
    rwa [e] at h1)
  obtain ⟨Z1, hZ1⟩ : ∃ Z, zoneP f fr = Z := ⟨_, rfl⟩
  obtain ⟨z1, hz1⟩ : ∃ z : Nat, z = Z1.getD 0 := ⟨_, rfl⟩
  obtain ⟨i1, hi1⟩ : ∃ z : Bool, Z1.isSome = z := ⟨_, rfl⟩
  have ZA := Lib.hid (show ∀ w, Calls Tryz.prog 22 #[f.val, .int .i64 fr] w fun e w' => e = .returned (.tuple #[.int .i64 (z1 : Int), .bool i1]) ∧ Kp No w w' from fun w => by
    have h1 := qzone_any f (by omega) fr hfr w
    have e : ZVal (zoneP f fr) = .tuple #[.int .i64 (z1 : Int), .bool i1] := by unfold ZVal; rw [hZ1, ← hz1, hi1]
    rwa [e] at h1)
  obtain ⟨Z2, hZ2⟩ : ∃ Z, zoneP f tg = Z := ⟨_, rfl⟩
  obtain ⟨z2, hz2⟩ : ∃ z : Nat, z = Z2.getD 0 := ⟨_, rfl⟩
  obtain ⟨i2, hi2⟩ : ∃ z : Bool, Z2.isSome = z := ⟨_, rfl⟩
  have ZB := Lib.hid (show ∀ w, Calls Tryz.prog 22 #[f.val, .int .i64 tg] w fun e w' => e = .returned (.tuple #[.int .i64 (z2 : Int), .bool i2]) ∧ Kp No w w' from fun w => by
    have h1 := qzone_any f (by omega) tg htg w
    have e : ZVal (zoneP f tg) = .tuple #[.int .i64 (z2 : Int), .bool i2] := by unfold ZVal; rw [hZ2, ← hz2, hi2]
    rwa [e] at h1)
  obtain ⟨pl, hpl⟩ : ∃ z, decide (pod < 0) = z := ⟨_, rfl⟩
  obtain ⟨pg, hpg⟩ : ∃ z, decide (64 ≤ pod) = z := ⟨_, rfl⟩
  have hall : (is && i1 && i2 && !pl && !pg) = false := by rw [← hmk]; unfold makeB; rw [hD, hZ1, hZ2, his, hi1, hi2, hpl, hpg]
  obtain ⟨X, Y, sb⟩ := f
  unfold Flr.val at DO ZA ZB ⊢
  simp only at DO ZA ZB ⊢
  clear hsz hr hfr htg hmk hD hdn his hZ1 hz1 hi1 hZ2 hz2 hi2
  go_enter Tryz.func8, Tryz.ntmps8
  go_wp2_with fail
  refine (DO.out _).mono ?_
  rintro e w1 ⟨rfl, k1⟩
  have B1 := Lib.hid (HBX.out.no k1)
  obtain ⟨c0, c1, c2⟩ : _ ∧ _ ∧ _ := ⟨B1.out.c0, B1.out.c1, B1.out.c2⟩
  simp only at c0 c1 c2
  clear k1
  go_wp2_with fail
  refine (ZA.out _).mono ?_
  rintro e w2 ⟨rfl, k2⟩
  have B2 := Lib.hid (B1.out.no k2)
  clear c0 c1 c2 k2 B1
  obtain ⟨c0, c1, c2⟩ : _ ∧ _ ∧ _ := ⟨B2.out.c0, B2.out.c1, B2.out.c2⟩
  simp only at c0 c1 c2
  go_wp2_with fail
  refine (ZB.out _).mono ?_
  rintro e w3 ⟨rfl, k3⟩
  have B3 := Lib.hid (B2.out.no k3)
  clear c0 c1 c2 k3 B2
  cases is with
  | false => go_wp2_with fail; go_ret2; exact FIN.out _ B3.out.kp
  | true =>
    cases i1 with
    | false => go_wp2_with fail; go_ret2; exact FIN.out _ B3.out.kp
    | true =>
      cases i2 with
      | false => go_wp2_with fail; go_ret2; exact FIN.out _ B3.out.kp
      | true =>
        cases pl with
        | true => go_wp2_with fail; go_ret2; exact FIN.out _ B3.out.kp
        | false =>
          obtain rfl : pg = true := by simpa using hall
          clear hall
          go_wp2_with fail; go_ret2; exact FIN.out _ B3.out.kp
set_option maxHeartbeats 4000000 in
set_option maxRecDepth 100000 in
theorem q10Make_ok (f : Flr) (hsz : f.s.size ≤ 1000000) (robot pod : Int) (a b d : Nat) {bv : Value} {B : List Int} {w : World} (hB : Rd IK w bv B) (hmk : makeB f robot pod a b = true) (hd : dockP f robot = some d) :
    Calls Tryz.prog 8 #[f.val, .int .i64 robot, .int .i64 pod, .int .i64 (a : Int), .int .i64 (b : Int), bv] w (MakeO f robot pod a b B w) := by
  obtain ⟨Q1, e1, hf1⟩ := fnd_ex (stepsP f d B) d a
  obtain ⟨Q2, e2, hf2⟩ := fnd_ex (stepsP f a B) a b
  obtain ⟨Q3, e3, hf3⟩ := fnd_ex (stepsP f b B) b d
  have hmk2 := hmk
  unfold makeB at hmk2
  simp only [Bool.and_eq_true, Bool.not_eq_true', decide_eq_false_iff_not] at hmk2
  obtain ⟨⟨⟨⟨_, ha⟩, hb⟩, hp0⟩, hp1⟩ := hmk2
  obtain ⟨hds, _, hdo, hdop⟩ := dock_okT hd
  obtain ⟨_, ea, has, _, hao, _⟩ := zone_okT ha
  obtain rfl := Int.ofNat.inj ea
  obtain ⟨_, eb, hbs, _, hbo, _⟩ := zone_okT hb
  obtain rfl := Int.ofNat.inj eb
  have hR : rightB f = true := by unfold ptOk at hdo; simp only [Bool.and_eq_true] at hdo; exact hdo.1.2
  have h256 : f.s.size ≤ 256 := (rightB_iff.1 hR).s256
  have hdo' : ptOk f d = true := hdo
  have FNO := Lib.hid (show ∀ w', (e1 = 2 ∨ e2 = 2 ∨ e3 = 2) → Kp No w w' → MakeO f robot pod a b B w (.returned (.tuple #[.slice none 0 0, .int .i64 2])) w' from fun w' hx hk => by
    refine ⟨[], none, 0, 2, ?_, rfl, (NewS.nil _ _ _).kpNo hk⟩
    rcases hx with h | h | h
    · exact .no d a b (d, a, 2) hmk hd rfl rfl (by unfold legsT; simp) (hf1.bad h)
    · exact .no d a b (a, b, 3) hmk hd rfl rfl (by unfold legsT; simp) (hf2.bad h)
    · exact .no d a b (b, d, 0) hmk hd rfl rfl (by unfold legsT; simp) (hf3.bad h))
  have FOK := Lib.hid (show e1 = 0 → e2 = 0 → e3 = 0 → MadeR f robot pod a b B ((goT Q1 ++ [⟨2, (a : Int), pod⟩]) ++ (goT Q2 ++ [⟨3, (b : Int), pod⟩]) ++ goT Q3) 0 from fun h1 h2 h3 => by
    obtain ⟨d1, g1⟩ := hf1.good h1
    obtain ⟨d2, g2⟩ := hf2.good h2
    obtain ⟨d3, g3⟩ := hf3.good h3
    exact .ok d a b _ _ _ hmk hd rfl rfl ⟨Q1, d1, g1, rfl⟩ ⟨Q2, d2, g2, rfl⟩ ⟨Q3, d3, g3, by simp⟩)
  have LQ : ∀ {s g : Nat} {Q : List Nat} {er : Int}, s < f.s.size → FndR (stepsP f s B) s g Q er → Q.length ≤ 256 := by
    intro s g Q er hs hf
    rcases hf with ⟨_, rfl, _⟩ | ⟨_, h1, _⟩
    · simp
    · have := dst_smallT (c := g) hs (fun u c hu hc => steps_sz (B := B) (fr := s) (rightB_iff.1 hR) hu hc)
      omega
  have hl1 := LQ hds hf1
  have hl2 := LQ has hf2
  have hl3 := LQ hbs hf3
  have HL1 := Lib.hid hl1; have HL2 := Lib.hid hl2; have HL3 := Lib.hid hl3
  have T1 := Lib.hid hf1.two; have T2 := Lib.hid hf2.two; have T3 := Lib.hid hf3.two
  have HBX := Lib.hid (BxW.new f w)
  have DO := Lib.hid (show ∀ w, Calls Tryz.prog 21 #[f.val, .int .i64 robot] w fun e w' => e = .returned (.tuple #[.int .i64 (d : Int), .bool true]) ∧ Kp No w w' from fun w => by
    have h1 := qdockOf_any f (by omega) robot w
    rw [hd] at h1; exact h1)
  obtain ⟨z1, hz1⟩ : ∃ z : Nat, zoneP f (a : Int) = some z := Option.isSome_iff_exists.1 ha
  obtain ⟨z2, hz2⟩ : ∃ z : Nat, zoneP f (b : Int) = some z := Option.isSome_iff_exists.1 hb
  have ZA := Lib.hid (show ∀ w, Calls Tryz.prog 22 #[f.val, .int .i64 (a : Int)] w fun e w' => e = .returned (.tuple #[.int .i64 (z1 : Int), .bool true]) ∧ Kp No w w' from fun w => by
    have h1 := qzone_any f (by omega) (a : Int) (by omega) w
    rw [hz1] at h1; exact h1)
  have ZB := Lib.hid (show ∀ w, Calls Tryz.prog 22 #[f.val, .int .i64 (b : Int)] w fun e w' => e = .returned (.tuple #[.int .i64 (z2 : Int), .bool true]) ∧ Kp No w w' from fun w => by
    have h1 := qzone_any f (by omega) (b : Int) (by omega) w
    rw [hz2] at h1; exact h1)
  have HO := Lib.hid (fun w => q5Of_any f hsz w)
  have HN := Lib.hid (show mpN f ≤ 1000 by unfold mpN; rw [if_pos hR]; omega)
  have FD := Lib.hid (fun (M : MpC) (Vs : List SlC) (wx : World) (h : MpW f (mpN f) M Vs wx) (hk : Kp No w wx) => (⟨q5MFind_fnd h HN.out d a hdo' hao (hB.kpNo hk) hf1, q5MFind_fnd h HN.out a b hao hbo (hB.kpNo hk) hf2, q5MFind_fnd h HN.out b d hbo hdo' (hB.kpNo hk) hf3⟩ : _ ∧ _ ∧ _))
  obtain ⟨N, hN⟩ : ∃ z, z = mpN f := ⟨_, rfl⟩
  have MO := Lib.hid (fun M Vs w w' (hk : Kp No w w') (h : MpW f (mpN f) M Vs w) => h.no hk)
  unfold OfR at HO
  rw [← hN] at FD HO MO
  obtain ⟨F, hF⟩ : ∃ F, F = f := ⟨_, rfl⟩
  rw [← hF] at FNO FOK MO FD HO DO ZA ZB HBX
  rw [← hF]
  obtain ⟨X, Y, sb⟩ := f
  have HV := Lib.hid (show F.val = .agg #[.int .i64 X, .int .i64 Y, .string sb] by rw [hF]; rfl)
  have BC := Lib.hid (show ∀ wx, BxW F w.heap.size w wx → wx.cell? ⟨w.heap.size, 0, none⟩ = some (.int .i64 X) ∧ wx.cell? ⟨w.heap.size, 1, none⟩ = some (.int .i64 Y) ∧ wx.cell? ⟨w.heap.size, 2, none⟩ = some (.string sb) from fun wx h => by rw [hF] at h; exact ⟨h.c0, h.c1, h.c2⟩)
  have B0 := Lib.hid (show BxW F w.heap.size w (w.alloc (.cells #[.int .i64 X, .int .i64 Y, .string sb] 23)) by rw [hF]; rw [hF] at HBX; exact HBX.out)
  rw [HV.out] at DO ZA ZB HO ⊢
  clear HBX
  obtain ⟨q1, hq1⟩ : ∃ z, z = Q1.length := ⟨_, rfl⟩
  obtain ⟨q2, hq2⟩ : ∃ z, z = Q2.length := ⟨_, rfl⟩
  obtain ⟨q3, hq3⟩ : ∃ z, z = Q3.length := ⟨_, rfl⟩
  rw [← hq1, ← hq2, ← hq3] at FD
  rw [← hq1] at HL1; rw [← hq2] at HL2; rw [← hq3] at HL3
  have HQ1 := Lib.hid hq1; have HQ2 := Lib.hid hq2; have HQ3 := Lib.hid hq3
  clear hF hsz hmk hd hB hf1 hf2 hf3 ha hb hds hdo hdop has hao hbs hbo hR h256 hdo' LQ hl1 hl2 hl3 hz1 hz2 hN hq1 hq2 hq3
  go_enter Tryz.func8, Tryz.ntmps8
  go_wp2_with fail
  refine (DO.out _).mono ?_
  rintro e w1 ⟨rfl, k1⟩
  have B1 := Lib.hid (B0.out.no k1)
  obtain ⟨c0, c1, c2⟩ := BC.out _ B1.out
  clear k1
  go_wp2_with fail
  refine (ZA.out _).mono ?_
  rintro e w2 ⟨rfl, k2⟩
  have B2 := Lib.hid (B1.out.no k2)
  clear c0 c1 c2 k2 B1
  obtain ⟨c0, c1, c2⟩ := BC.out _ B2.out
  go_wp2_with fail
  refine (ZB.out _).mono ?_
  rintro e w3 ⟨rfl, k3⟩
  have B3 := Lib.hid (B2.out.no k3)
  clear c0 c1 c2 k3 B2
  obtain ⟨c0, c1, c2⟩ := BC.out _ B3.out
  go_wp2_with fail
  refine (HO.out _).mono ?_
  rintro e w4 ⟨A1, s1, A2, s2, A3, s3, Vs, rfl, mw, kp4⟩
  have MW := Lib.hid mw
  have K4 := Lib.hid (B3.out.kp.no kp4)
  clear mw kp4 c0 c1 c2
  go_upto_region 7 with fail
  obtain ⟨w5, hw5⟩ : ∃ y : World, y = w4.alloc (.cells #[.slice A1 N s1, .slice A2 N s2, .slice A3 N s3] 51) := ⟨_, rfl⟩
  rw [← hw5]
  have BM := Lib.hid (show w5.heap[w4.heap.size]? = some (.cells #[.slice A1 N s1, .slice A2 N s2, .slice A3 N s3] 51 (0, 0)) by rw [hw5]; exact blk_new w4 _)
  have K5 := Lib.hid (show Kp No w w5 by rw [hw5]; exact K4.out.alloc _)
  have MW5 := Lib.hid (MO.out _ _ _ w5 (by rw [hw5]; exact (Kp.refl _ _).alloc _) MW.out)
  have LB := Lib.hid (fun wx (hk : Kp No w5 wx) => show wx.cell? ⟨w4.heap.size, 0, none⟩ = some (.slice A1 N s1) ∧ wx.cell? ⟨w4.heap.size, 1, none⟩ = some (.slice A2 N s2) ∧ wx.cell? ⟨w4.heap.size, 2, none⟩ = some (.slice A3 N s3) from ⟨blk_cell (hk.blk BM.out (no_no _)) 0, blk_cell (hk.blk BM.out (no_no _)) 1, blk_cell (hk.blk BM.out (no_no _)) 2⟩)
  have FD5 := Lib.hid (fun wx (hk : Kp No w5 wx) => FD.out ⟨A1, s1, A2, s2, A3, s3⟩ Vs wx (MO.out _ _ _ wx hk MW5.out) (K5.out.no hk))
  unfold MpC.val at FD5
  simp only at FD5
  clear hw5
  obtain ⟨c0, c1, c2⟩ := LB.out w5 (Kp.refl _ _)
  go_wp2_with fail
  refine (FD5.out _ (Kp.refl _ _)).1.mono ?_
  rintro e w6 ⟨B1', t1, rfl, n6⟩
  have N6 := Lib.hid n6
  clear n6 c0 c1 c2
  obtain ⟨c0, c1, c2⟩ := LB.out w6 N6.out.kp
  go_wp2_with fail
  refine (FD5.out _ N6.out.kp).2.1.mono ?_
  rintro e w7 ⟨B2', t2, rfl, n7⟩
  have N7 := Lib.hid n7
  have K7 := Lib.hid (N6.out.kp.no n7.kp)
  clear n7 c0 c1 c2
  obtain ⟨c0, c1, c2⟩ := LB.out w7 K7.out
  go_wp2_with fail
  refine (FD5.out _ K7.out).2.2.mono ?_
  rintro e w8 ⟨B3', t3, rfl, n8⟩
  have R1 := Lib.hid (show Rd IK w8 (.slice B1' q1 t1) (ints Q1) from (N6.out.own.rd.kpNo N7.out.kp).kpNo n8.kp)
  have R2 := Lib.hid (show Rd IK w8 (.slice B2' q2 t2) (ints Q2) from N7.out.own.rd.kpNo n8.kp)
  have R3 := Lib.hid n8.own.rd
  have K8 := Lib.hid (K5.out.no (K7.out.no n8.kp))
  clear n8 c0 c1 c2
  rcases T1.out with he1 | he1
  case inr =>
    subst he1
    go_wp2_with fail
    go_ret2
    exact FNO.out _ (by simp) K8.out
  rcases T2.out with he2 | he2
  case inr =>
    subst he1 he2
    go_wp2_with fail
    go_ret2
    exact FNO.out _ (by simp) K8.out
  rcases T3.out with he3 | he3
  case inr =>
    subst he1 he2 he3
    go_wp2_with fail
    go_ret2
    exact FNO.out _ (by simp) K8.out
  have FO := Lib.hid (FOK.out he1 he2 he3)
  subst he1 he2 he3
  have hb1 := HL1.out; have hb2 := HL2.out; have hb3 := HL3.out
  have G1 := Lib.hid (show ∀ wx, Kp No w8 wx → Calls Tryz.prog 25 #[.slice B1' q1 t1] wx fun e w' => ∃ A q, e = .returned (.slice A q1 q) ∧ NewS AcK 41 wx w' (.slice A q1 q) (goT Q1) from fun wx hk => by rw [HQ1.out]; exact q10gos_any (by rw [← HQ1.out]; exact R1.out.kpNo hk) (by rw [← HQ1.out]; omega))
  have G2 := Lib.hid (show ∀ wx, Kp No w8 wx → Calls Tryz.prog 25 #[.slice B2' q2 t2] wx fun e w' => ∃ A q, e = .returned (.slice A q2 q) ∧ NewS AcK 41 wx w' (.slice A q2 q) (goT Q2) from fun wx hk => by rw [HQ2.out]; exact q10gos_any (by rw [← HQ2.out]; exact R2.out.kpNo hk) (by rw [← HQ2.out]; omega))
  have G3 := Lib.hid (show ∀ wx, Kp No w8 wx → Calls Tryz.prog 25 #[.slice B3' q3 t3] wx fun e w' => ∃ A q, e = .returned (.slice A q3 q) ∧ NewS AcK 41 wx w' (.slice A q3 q) (goT Q3) from fun wx hk => by rw [HQ3.out]; exact q10gos_any (by rw [← HQ3.out]; exact R3.out.kpNo hk) (by rw [← HQ3.out]; omega))
  go_wp2_with fail
  refine (G1.out _ (Kp.refl _ _)).mono ?_
  rintro e w9 ⟨C1, u1, rfl, n9⟩
  have N9 := Lib.hid n9
  have L9 := Lib.hid (show q1 = (goT Q1).length by rw [goT_size, HQ1.out])
  clear n9
  go_wp2_with (at_builtin; refine wpl_snocA (y := ⟨2, (a : Int), pod⟩) rfl (.tmp 102) (.tmp 106) rfl rfl rfl rfl rfl rfl rfl (OutS.start N9.out) L9.out (by omega) ?_; intro C2 u2 w10 n10; have N10 := Lib.hid n10.ns; clear n10)
  refine (G2.out _ N10.out.kp).mono ?_
  rintro e w11 ⟨C3, u3, rfl, n11⟩
  have N11 := Lib.hid (N10.out.kpNo n11.kp)
  have Y11 := Lib.hid n11.own.rd
  have L11 := Lib.hid (show (goT Q1 ++ [(⟨2, (a : Int), pod⟩ : ActT)]).length + (goT Q2).length = q1 + 1 + q2 by rw [List.length_append, goT_size, goT_size, HQ1.out, HQ2.out]; simp)
  clear n11
  go_wp2_with (at_builtin; first
    | (refine wpl_append elAc rfl (.tmp 108) (.tmp 110) rfl rfl rfl N11.out.own Y11.out (by rw [L11.out]; unfold maxLen; omega) (by rw [L11.out]; omega) ?_; intro v12 w12 o12 k12 j12; have N12 := Lib.hid (NewS.app2 o12 k12 j12 (Kp.refl _ _) N11.out (Nat.le_refl _)); clear o12 k12 j12; obtain ⟨C4, u4, rfl⟩ := N12.out.own.rd.shape; obtain ⟨q12, hq12⟩ : ∃ z, z = (goT Q1 ++ [(⟨2, (a : Int), pod⟩ : ActT)] ++ goT Q2).length := ⟨_, rfl⟩; have L12 := Lib.hid (show q12 = q1 + 1 + q2 by rw [hq12, List.length_append, L11.out]); have HQ12 := Lib.hid hq12; rw [← hq12] at N12 ⊢; clear hq12)
    | (refine wpl_snocA (y := ⟨3, (b : Int), pod⟩) rfl (.tmp 112) (.tmp 116) rfl rfl rfl rfl rfl rfl rfl (OutS.start N12.out) HQ12.out (by rw [L12.out]; omega) ?_; intro C5 u5 w13 n13; have N13 := Lib.hid n13.ns; clear n13))
  refine (G3.out _ N13.out.kp).mono ?_
  rintro e w14 ⟨C6, u6, rfl, n14⟩
  have N14 := Lib.hid (N13.out.kpNo n14.kp)
  have Y14 := Lib.hid n14.own.rd
  have L14 := Lib.hid (show (goT Q1 ++ [(⟨2, (a : Int), pod⟩ : ActT)] ++ goT Q2 ++ [(⟨3, (b : Int), pod⟩ : ActT)]).length + (goT Q3).length = q12 + 1 + q3 by rw [List.length_append, ← HQ12.out, goT_size, HQ3.out]; simp)
  clear n14
  go_wp2_with (at_builtin; refine wpl_append elAc rfl (.tmp 118) (.tmp 120) rfl rfl rfl N14.out.own Y14.out (by rw [L14.out, L12.out]; unfold maxLen; omega) (by rw [L14.out, L12.out]; omega) ?_; intro v15 w15 o15 k15 j15; have N15 := Lib.hid (NewS.app2 o15 k15 j15 (Kp.refl _ _) N14.out (Nat.le_refl _)); clear o15 k15 j15; obtain ⟨out, hout⟩ : ∃ z, z = goT Q1 ++ [(⟨2, (a : Int), pod⟩ : ActT)] ++ goT Q2 ++ [(⟨3, (b : Int), pod⟩ : ActT)] ++ goT Q3 := ⟨_, rfl⟩; have HOUT := Lib.hid hout; rw [← hout] at N15; clear hout; obtain ⟨C7, u7, rfl⟩ := N15.out.own.rd.shape)
  go_ret2
  exact ⟨out, C7, u7, 0, by rw [HOUT.out]; have := FO.out; simpa using this, rfl, N15.out.from_ K8.out⟩
theorem q10Make_any (f : Flr) (hsz : f.s.size ≤ 1000000) (robot pod fr tg : Int) (hr : robot ≤ 9223372036854775807) (hfr : fr ≤ 9223372036854775807) (htg : tg ≤ 9223372036854775807) {bv : Value} {B : List Int} {w : World} (hB : Rd IK w bv B) :
    Calls Tryz.prog 8 #[f.val, .int .i64 robot, .int .i64 pod, .int .i64 fr, .int .i64 tg, bv] w (MakeO f robot pod fr tg B w) := by
  cases hmk : makeB f robot pod fr tg with
  | false => exact q10Make_arg f hsz robot pod fr tg hr hfr htg bv B w hmk
  | true =>
    have h := hmk
    unfold makeB at h
    simp only [Bool.and_eq_true, Bool.not_eq_true'] at h
    obtain ⟨⟨⟨⟨hd, ha⟩, hb⟩, _⟩, _⟩ := h
    obtain ⟨a, rfl, _⟩ := zone_okT ha
    obtain ⟨b, rfl, _⟩ := zone_okT hb
    obtain ⟨d, hd⟩ := Option.isSome_iff_exists.1 hd
    exact q10Make_ok f hsz robot pod a b d hB hmk hd
end Go.Proofs.YtmipnicdlldjnaaGreatDoor
