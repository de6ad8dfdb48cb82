/- world: Under, Cells, Charge, Done, Pod (written by bin/gen_wd.py); world: Pod (written by bin/gen_wd.py); Maps with int keys: what a map holds, look-up, store, delete, len. No function of the program; Maps with int keys: delete, len; maps to bool as sets; world: Send, come (written by bin/gen_wd.py); world: Fetch, Lose, Tell (written by bin/gen_wd.py); world: Deliver (written by bin/gen_wd.py); world: carries, can; slices.IndexFunc, Index, Contains of pods. No condition. -/
import Derived.Test.YtfpikgkbccgchaaGreatDoorM6
import Derived.Deep.RegionHeld3
import Derived.OwnWalk
import Derived.Test.YtfpikgkbccgchaaGreatDoorM1
import Derived.Maps.RangeRun

namespace Go.Proofs.YtfpikgkbccgchaaGreatDoor
set_option linter.unusedVariables false
set_option linter.unusedSimpArgs false
open Go.RowKit

theorem len_kn (w : World) : Calls Tryz.prog 57 #[.pointer none] w fun e w' => e = .returned (.int .i64 0) ∧ Kp No w w' := (len_nil w).mono fun _ _ ⟨a, b⟩ => ⟨a, b ▸ Kp.refl _ _⟩
theorem len_kp {w : World} {p : Nat} {V : Value} {l : List SlH} (h : NetS p V l w) : Calls Tryz.prog 57 #[.pointer (some ⟨p, 0, none⟩)] w fun e w' => e = .returned (.int .i64 (l.length : Int)) ∧ Kp No w w' := (len_any h).mono fun _ _ ⟨a, b⟩ => ⟨a, b ▸ Kp.refl _ _⟩
set_option maxRecDepth 100000 in
theorem under_any {G : Nat → Prop} {w0 w : World} {pw : Nat} {W : List PU} {P : List (Int × Int)} (h : WldP G w0 pw W P w) (i : Int) : Calls Tryz.prog 20 #[.pointer (some ⟨pw, 0, none⟩), .int .i64 i] w fun e w' => e = .returned (.tuple #[.int .i64 ((underP W i).1 : Int), .int .i64 ((underP W i).2 : Int)]) ∧ Kp No w w' := by
  obtain ⟨uv, pv, U, h, rfl⟩ := h
  have UN := Lib.hid (unit_any h i)
  cases hg : getU U i with
  | none =>
    have HE := Lib.hid (show underP (U.map Un.pl) i = (0, 0) by unfold underP; rw [getP_pl, hg]; rfl)
    rw [hg] at UN
    unfold ptrV at UN
    simp only at UN
    clear h hg
    go_enter Tryz.func20, Tryz.ntmps20
    go_wp2_with fail
    refine UN.out.mono ?_
    rintro e w1 ⟨rfl, k1⟩
    have K1 := Lib.hid k1
    clear k1
    go_upto_region 2 with fail
    obtain ⟨w2, hw2⟩ : ∃ y : World, y = w1.alloc (.cells #[.pointer none, .pointer none, .pointer none] 89) := ⟨_, rfl⟩
    rw [← hw2]
    have BX := Lib.hid (show w2.heap[w1.heap.size]? = some (.cells #[.pointer none, .pointer none, .pointer none] 89 (0, 0)) by rw [hw2]; exact blk_new w1 _)
    have K2 := Lib.hid (show Kp No w w2 by rw [hw2]; exact K1.out.alloc _)
    have LB := Lib.hid (fun wx (hk : Kp No w2 wx) => show wx.cell? ⟨w1.heap.size, 0, none⟩ = some (.pointer none) ∧ wx.cell? ⟨w1.heap.size, 1, none⟩ = some (.pointer none) ∧ wx.cell? ⟨w1.heap.size, 2, none⟩ = some (.pointer none) from ⟨blk_cell (hk.blk BX.out (no_no _)) 0, blk_cell (hk.blk BX.out (no_no _)) 1, blk_cell (hk.blk BX.out (no_no _)) 2⟩)
    clear hw2
    obtain ⟨q0, q1, q2⟩ := LB.out w2.drew (Kp.refl _ _).drew
    go_region_held3 (fun w' => w'.cell? ⟨w1.heap.size, 1, none⟩ = some (.pointer none) ∧ w'.cell? ⟨w1.heap.size, 2, none⟩ = some (.pointer none))
      (first | exact ⟨by assumption, by assumption⟩ | exact ⟨q1, q2⟩)
      (first
        | (go_at_call 57; refine (len_kn w3).mono ?_; rintro e w4 ⟨rfl, k4⟩; have K4 := Lib.hid (K3.out.no k4); obtain ⟨_, r1, r2⟩ := LB.out w4 K4.out; clear k4)
        | (go_at_call 57; refine (len_kn w2.drew).mono ?_; rintro e w3 ⟨rfl, k3⟩; have K3 := Lib.hid ((Kp.refl No w2).drew.no k3); obtain ⟨_, s1, s2⟩ := LB.out w3 K3.out; clear k3))
    go_wp2_with fail
    go_ret2
    exact ⟨by rw [HE.out]; rfl, K2.out.no (K4.out.no ((Kp.refl No _).drewN 0))⟩
  | some u =>
    obtain ⟨k, rfl, hu⟩ := getU_some hg
    have HE := Lib.hid (show underP (U.map Un.pl) (k : Int) = (u.T.length, u.F.length) by unfold underP; rw [getP_pl, hg]; simp [Un.pl])
    have HM := Lib.hid (h.un k u hu)
    rw [hg] at UN
    unfold ptrV at UN
    simp only at UN
    clear h hg hu
    go_enter Tryz.func20, Tryz.ntmps20
    go_wp2_with fail
    refine UN.out.mono ?_
    rintro e w1 ⟨rfl, k1⟩
    have K1 := Lib.hid k1
    clear k1
    go_upto_region 2 with fail
    obtain ⟨w2, hw2⟩ : ∃ y : World, y = w1.alloc (.cells #[.pointer (some ⟨u.pr, 0, none⟩), .pointer (some ⟨u.pt, 0, none⟩), .pointer (some ⟨u.pf, 0, none⟩)] 89) := ⟨_, rfl⟩
    rw [← hw2]
    have BX := Lib.hid (show w2.heap[w1.heap.size]? = some (.cells #[.pointer (some ⟨u.pr, 0, none⟩), .pointer (some ⟨u.pt, 0, none⟩), .pointer (some ⟨u.pf, 0, none⟩)] 89 (0, 0)) by rw [hw2]; exact blk_new w1 _)
    have K2 := Lib.hid (show Kp No w w2 by rw [hw2]; exact K1.out.alloc _)
    have LB := Lib.hid (fun wx (hk : Kp No w2 wx) => show wx.cell? ⟨w1.heap.size, 0, none⟩ = some (.pointer (some ⟨u.pr, 0, none⟩)) ∧ wx.cell? ⟨w1.heap.size, 1, none⟩ = some (.pointer (some ⟨u.pt, 0, none⟩)) ∧ wx.cell? ⟨w1.heap.size, 2, none⟩ = some (.pointer (some ⟨u.pf, 0, none⟩)) from ⟨blk_cell (hk.blk BX.out (no_no _)) 0, blk_cell (hk.blk BX.out (no_no _)) 1, blk_cell (hk.blk BX.out (no_no _)) 2⟩)
    clear hw2
    have HM2 := Lib.hid (fun wx (hk : Kp No w2 wx) => HM.out.no (K2.out.no hk))
    obtain ⟨q0, q1, q2⟩ := LB.out w2.drew (Kp.refl _ _).drew
    go_region_held3 (fun w' => w'.cell? ⟨w1.heap.size, 1, none⟩ = some (.pointer (some ⟨u.pt, 0, none⟩)) ∧ w'.cell? ⟨w1.heap.size, 2, none⟩ = some (.pointer (some ⟨u.pf, 0, none⟩)))
      (first | exact ⟨by assumption, by assumption⟩ | exact ⟨q1, q2⟩)
      (first
        | (go_at_call 57; refine (len_kp (HM2.out w3 K3.out).fr).mono ?_; rintro e w4 ⟨rfl, k4⟩; have K4 := Lib.hid (K3.out.no k4); obtain ⟨_, r1, r2⟩ := LB.out w4 K4.out; clear k4)
        | (go_at_call 57; refine (len_kp (HM2.out w2.drew (Kp.refl _ _).drew).to_).mono ?_; rintro e w3 ⟨rfl, k3⟩; have K3 := Lib.hid ((Kp.refl No w2).drew.no k3); obtain ⟨_, s1, s2⟩ := LB.out w3 K3.out; clear k3))
    go_wp2_with fail
    go_ret2
    exact ⟨by rw [HE.out]; rfl, K2.out.no (K4.out.no ((Kp.refl No _).drewN 0))⟩
set_option maxRecDepth 100000 in
theorem wcharge_any {G : Nat → Prop} {w0 w : World} {pw : Nat} {W : List PU} {P : List (Int × Int)} (h : WldP G w0 pw W P w) (i : Int) : Calls Tryz.prog 26 #[.pointer (some ⟨pw, 0, none⟩), .int .i64 i] w fun e w' => e = .returned (.int .i64 (chargeP W i)) ∧ Kp No w w' := by
  obtain ⟨uv, pv, U, h, rfl⟩ := h
  have UN := Lib.hid (unit_any h i)
  cases hg : getU U i with
  | none =>
    have HE := Lib.hid (show chargeP (U.map Un.pl) i = 0 by unfold chargeP; rw [getP_pl, hg]; rfl)
    rw [hg] at UN
    unfold ptrV at UN
    simp only at UN
    clear h hg
    go_enter Tryz.func26, Tryz.ntmps26
    go_wp2_with fail
    refine UN.out.mono ?_
    rintro e w1 ⟨rfl, k1⟩
    have K1 := Lib.hid k1
    clear k1
    have hf0 := fld0 (.pointer none) (.pointer none) (.pointer none)
    go_wp2_with fail
    refine (charge_nil w1).mono ?_
    rintro e w2 ⟨rfl, rfl⟩
    go_wp2_with fail
    go_ret
    exact ⟨by rw [HE.out]; rfl, K1.out⟩
  | some u =>
    obtain ⟨k, rfl, hu⟩ := getU_some hg
    have HE := Lib.hid (show chargeP (U.map Un.pl) (k : Int) = u.R.charge by unfold chargeP; rw [getP_pl, hg]; simp [Un.pl])
    have HM := Lib.hid (h.un k u hu)
    rw [hg] at UN
    unfold ptrV at UN
    simp only at UN
    clear h hg hu
    go_enter Tryz.func26, Tryz.ntmps26
    go_wp2_with fail
    refine UN.out.mono ?_
    rintro e w1 ⟨rfl, k1⟩
    have K1 := Lib.hid k1
    clear k1
    have hf0 := fld0 (.pointer (some ⟨u.pr, 0, none⟩)) (.pointer (some ⟨u.pt, 0, none⟩)) (.pointer (some ⟨u.pf, 0, none⟩))
    go_wp2_with fail
    refine (charge_any (HM.out.no K1.out).rob).mono ?_
    rintro e w2 ⟨rfl, rfl⟩
    go_wp2_with fail
    go_ret
    exact ⟨by rw [HE.out]; rfl, K1.out⟩
set_option maxRecDepth 100000 in
theorem wdone_any {G : Nat → Prop} {w0 w : World} {pw : Nat} {W : List PU} {P : List (Int × Int)} (h : WldP G w0 pw W P w) (i : Int) : Calls Tryz.prog 27 #[.pointer (some ⟨pw, 0, none⟩), .int .i64 i] w fun e w' => e = .returned (.int .u64 (doneP W i : Int)) ∧ Kp No w w' := by
  obtain ⟨uv, pv, U, h, rfl⟩ := h
  have UN := Lib.hid (unit_any h i)
  cases hg : getU U i with
  | none =>
    have HE := Lib.hid (show doneP (U.map Un.pl) i = 0 by unfold doneP; rw [getP_pl, hg]; rfl)
    rw [hg] at UN
    unfold ptrV at UN
    simp only at UN
    clear h hg
    go_enter Tryz.func27, Tryz.ntmps27
    go_wp2_with fail
    refine UN.out.mono ?_
    rintro e w1 ⟨rfl, k1⟩
    have K1 := Lib.hid k1
    clear k1
    have hf0 := fld0 (.pointer none) (.pointer none) (.pointer none)
    go_wp2_with fail
    refine (done_nil w1).mono ?_
    rintro e w2 ⟨rfl, rfl⟩
    go_wp2_with fail
    go_ret
    exact ⟨by rw [HE.out]; rfl, K1.out⟩
  | some u =>
    obtain ⟨k, rfl, hu⟩ := getU_some hg
    have HE := Lib.hid (show doneP (U.map Un.pl) (k : Int) = u.R.done by unfold doneP; rw [getP_pl, hg]; simp [Un.pl])
    have HM := Lib.hid (h.un k u hu)
    rw [hg] at UN
    unfold ptrV at UN
    simp only at UN
    clear h hg hu
    go_enter Tryz.func27, Tryz.ntmps27
    go_wp2_with fail
    refine UN.out.mono ?_
    rintro e w1 ⟨rfl, k1⟩
    have K1 := Lib.hid k1
    clear k1
    have hf0 := fld0 (.pointer (some ⟨u.pr, 0, none⟩)) (.pointer (some ⟨u.pt, 0, none⟩)) (.pointer (some ⟨u.pf, 0, none⟩))
    go_wp2_with fail
    refine (done_any (HM.out.no K1.out).rob).mono ?_
    rintro e w2 ⟨rfl, rfl⟩
    go_wp2_with fail
    go_ret
    exact ⟨by rw [HE.out]; rfl, K1.out⟩
set_option maxRecDepth 100000 in
theorem wcells_any {G : Nat → Prop} {w0 w : World} {pw : Nat} {W : List PU} {P : List (Int × Int)} (h : WldP G w0 pw W P w) (i : Int) : Calls Tryz.prog 17 #[.pointer (some ⟨pw, 0, none⟩), .int .i64 i] w (CellsR (cellsP W i) w) := by
  obtain ⟨uv, pv, U, h, rfl⟩ := h
  have UN := Lib.hid (unit_any h i)
  cases hg : getU U i with
  | none =>
    have HE := Lib.hid (show cellsP (U.map Un.pl) i = [] by unfold cellsP; rw [getP_pl, hg]; rfl)
    rw [hg] at UN
    unfold ptrV at UN
    simp only at UN
    clear h hg
    go_enter Tryz.func17, Tryz.ntmps17
    go_wp2_with fail
    refine UN.out.mono ?_
    rintro e w1 ⟨rfl, k1⟩
    have K1 := Lib.hid k1
    clear k1
    have hf0 := fld0 (.pointer none) (.pointer none) (.pointer none)
    go_wp2_with fail
    refine (cells_nil w1).mono ?_
    rintro e w2 ⟨rfl, rfl⟩
    go_wp2_with fail
    go_ret
    exact ⟨_, rfl, by rw [HE.out]; exact (NewS.nil _ _ _).kpNo K1.out⟩
  | some u =>
    obtain ⟨k, rfl, hu⟩ := getU_some hg
    have HE := Lib.hid (show cellsP (U.map Un.pl) (k : Int) = cellsL u.R by unfold cellsP; rw [getP_pl, hg]; rfl)
    have HM := Lib.hid (h.un k u hu)
    rw [hg] at UN
    unfold ptrV at UN
    simp only at UN
    clear h hg hu
    go_enter Tryz.func17, Tryz.ntmps17
    go_wp2_with fail
    refine UN.out.mono ?_
    rintro e w1 ⟨rfl, k1⟩
    have K1 := Lib.hid k1
    clear k1
    have hf0 := fld0 (.pointer (some ⟨u.pr, 0, none⟩)) (.pointer (some ⟨u.pt, 0, none⟩)) (.pointer (some ⟨u.pf, 0, none⟩))
    go_wp2_with fail
    refine (cells_any (HM.out.no K1.out).rob).mono ?_
    rintro e w2 ⟨v2, rfl, n2⟩
    obtain ⟨A2, c2, rfl⟩ := n2.own.rd.shape
    have N2 := Lib.hid n2
    clear n2
    go_wp2_with fail
    go_ret
    exact ⟨_, rfl, by rw [HE.out]; exact N2.out.from_ K1.out⟩
end Go.Proofs.YtfpikgkbccgchaaGreatDoor

namespace Go.Proofs.YtfpikgkbccgchaaGreatDoor
set_option linter.unusedVariables false
set_option linter.unusedSimpArgs false
open Go.RowKit

/-- Who carries a pod is there. -/
def PodOk (n : Nat) (P : List (Int × Int)) : Prop := ∀ x ∈ P, x.2 = -1 ∨ ∃ k : Nat, x.2 = k ∧ k < n
theorem Rd.podAt {w : World} {l : List (Int × Int)} {g o n cap : Nat} (h : Rd PdK w (.slice (some ⟨g, o, none⟩) n cap) l) {i : Nat} {x : Int × Int} (hx : l[i]? = some x) :
    w.cell? ⟨g, o + i * 2, none⟩ = some (.int .i64 x.1) ∧ w.cell? ⟨g, o + i * 2 + 1, none⟩ = some (.int .i64 x.2) := ⟨h.at rfl hx (j := 0) rfl, h.at rfl hx (j := 1) rfl⟩
theorem cellsL_cons (R : Rob) : ∃ c l, cellsL R = c :: l := by unfold cellsL; split <;> exact ⟨_, _, rfl⟩
theorem wpod_nil (w : World) (i : Int) : Calls Tryz.prog 16 #[.pointer none, .int .i64 i] w fun e w' => e = .returned (.tuple #[.int .i64 0, .int .i64 0, .bool false]) ∧ Kp No w w' := by
  go_enter Tryz.func16, Tryz.ntmps16
  go_wp2
  go_ret3
  exact ⟨rfl, Kp.refl _ _⟩
set_option maxHeartbeats 1000000 in
set_option maxRecDepth 100000 in
theorem wpod_any {G : Nat → Prop} {w0 w : World} {pw : Nat} {W : List PU} {P : List (Int × Int)} (h : WldP G w0 pw W P w) (ok : PodOk W.length P) (i : Int) : Calls Tryz.prog 16 #[.pointer (some ⟨pw, 0, none⟩), .int .i64 i] w fun e w' => e = .returned (.tuple #[.int .i64 (podP W P i).1, .int .i64 (podP W P i).2.1, .bool (podP W P i).2.2]) ∧ Kp No w w' := by
  have HW := Lib.hid h
  obtain ⟨uv, pv, U, h, hU⟩ := h
  obtain ⟨A, cap, rfl⟩ := h.pd.rd.shape
  obtain ⟨n, hn⟩ : ∃ z, z = P.length := ⟨_, rfl⟩
  have hpd := h.pd.rd
  rw [← hn] at hpd
  have hc : w.cell? ⟨pw, 1, none⟩ = some (.slice A n cap) := by
    have := (blk_cell h.blk 1).trans rfl
    rw [this, ← hn]; rfl
  by_cases h0 : i < 0
  · have HE := Lib.hid (show podP W P i = (0, 0, false) by unfold podP hasB; rw [if_neg (by simp; omega)])
    rw [HE.out]
    clear hpd h hn hU ok
    go_enter Tryz.func16, Tryz.ntmps16
    go_wp2
    go_ret3
    exact ⟨rfl, Kp.refl _ _⟩
  obtain ⟨k, rfl⟩ : ∃ k : Nat, i = k := ⟨i.toNat, by omega⟩
  have h0I : ¬ (k : Int) < 0 := by omega
  by_cases hk : n ≤ k
  · have HE := Lib.hid (show podP W P (k : Int) = (0, 0, false) by unfold podP hasB; rw [if_neg (by simp; omega)])
    have hkI : (n : Int) ≤ (k : Int) := by omega
    rw [HE.out]
    clear hpd h hn hU ok hk h0
    go_enter Tryz.func16, Tryz.ntmps16
    go_wp2
    go_ret3
    exact ⟨rfl, Kp.refl _ _⟩
  obtain ⟨x, hx⟩ : ∃ x, P[k]? = some x := ⟨_, List.getElem?_eq_getElem (by omega)⟩
  have hkI : ¬ (n : Int) ≤ (k : Int) := by omega
  have hkJ : (k : Int) < (n : Int) := by omega
  have hb : hasB P.length (k : Int) = true := by unfold hasB; simp; omega
  rcases hpd with ⟨_, he⟩ | ⟨g, o, cap', hv, q⟩
  · rw [he] at hx; cases hx
  have hpd : Rd PdK w (.slice A n cap) P := .inr ⟨g, o, cap', hv, q⟩
  simp only [Value.slice.injEq] at hv
  obtain ⟨rfl, hzz, rfl⟩ := hv
  have e0 : ∀ oo, (w.alloc oo).cell? ⟨g, o + k * 2, none⟩ = some (.int .i64 x.1) := fun oo => ((hpd.alloc oo).podAt hx).1
  have e1 : ∀ oo, (w.alloc oo).cell? ⟨g, o + k * 2 + 1, none⟩ = some (.int .i64 x.2) := fun oo => ((hpd.alloc oo).podAt hx).2
  have hca : ∀ oo, (w.alloc oo).cell? ⟨pw, 1, none⟩ = some (.slice (some ⟨g, o, none⟩) n cap) := fun oo => by
    have := (blk_cell (blk_alloc h.blk oo) 1).trans rfl
    rw [this, ← hn]; rfl
  have z0 := e0; have z1 := e1
  have d0 : w.cell? ⟨g, o + k * 2, none⟩ = some (.int .i64 x.1) := (hpd.podAt hx).1
  have d1 : w.cell? ⟨g, o + k * 2 + 1, none⟩ = some (.int .i64 x.2) := (hpd.podAt hx).2
  have HX := Lib.hid hx; have OK := Lib.hid (ok x (List.mem_of_getElem? hx)); have HBB := Lib.hid hb; have HU := Lib.hid hU
  obtain ⟨w1, hw1⟩ : ∃ y : World, y = w.alloc (.cells #[.int .i64 x.1, .int .i64 x.2] 82) := ⟨_, rfl⟩
  have BX := Lib.hid (show w1.heap[w.heap.size]? = some (.cells #[.int .i64 x.1, .int .i64 x.2] 82 (0, 0)) by rw [hw1]; exact blk_new w _)
  have K1 := Lib.hid (show Kp No w w1 by rw [hw1]; exact (Kp.refl _ _).alloc _)
  have HW1 := Lib.hid hw1
  have LB := Lib.hid (fun wx (hk : Kp No w1 wx) => show wx.cell? ⟨w.heap.size, 0, none⟩ = some (.int .i64 x.1) ∧ wx.cell? ⟨w.heap.size, 1, none⟩ = some (.int .i64 x.2) from ⟨blk_cell (hk.blk BX.out (no_no _)) 0, blk_cell (hk.blk BX.out (no_no _)) 1⟩)
  clear hpd h hn hU ok hk h0 hx hb hzz q hw1
  by_cases hby : x.2 = -1
  · have HE := Lib.hid (show podP W P (k : Int) = (x.1, -1, true) by unfold podP; rw [if_pos HBB.out]; simp only [Int.toNat_natCast, HX.out, if_pos hby])
    have hbI : (x.2 != -1) = false := by simp [hby]
    rw [HE.out]
    obtain ⟨q0, q1⟩ := LB.out w1 (Kp.refl _ _)
    clear hby
    go_enter Tryz.func16, Tryz.ntmps16
    go_upto_region 4 with fail
    rw [← HW1.out]
    go_wp2_with fail
    go_ret3
    exact ⟨rfl, K1.out⟩
  · obtain ⟨m, hm, hml⟩ := OK.out.resolve_left hby
    have hbI : (x.2 != -1) = true := by simp [hby]
    obtain ⟨u, hu⟩ : ∃ u, W[m]? = some u := ⟨_, List.getElem?_eq_getElem hml⟩
    obtain ⟨c0, cl, hcl⟩ := cellsL_cons u.R
    have hcp : cellsP W (m : Int) = c0 :: cl := by
      unfold cellsP getP hasB
      rw [if_pos (by simp; omega)]
      simp [hu, hcl]
    have HE := Lib.hid (show podP W P (k : Int) = (c0, x.2, true) by
      unfold podP
      rw [if_pos HBB.out]
      simp only [Int.toNat_natCast, HX.out, if_neg hby, hm]
      unfold cellP; rw [hcp]; rfl)
    have CE := Lib.hid (fun wx (hk : Kp No w wx) => show Calls Tryz.prog 17 #[.pointer (some ⟨pw, 0, none⟩), .int .i64 x.2] wx (CellsR (c0 :: cl) wx) by
      have := wcells_any (HW.out.no hk) (m : Int)
      rw [hcp] at this
      rw [hm]; exact this)
    rw [HE.out]
    obtain ⟨q0, q1⟩ := LB.out w1 (Kp.refl _ _)
    obtain ⟨r0, r1⟩ := LB.out w1.drew (Kp.refl _ _).drew
    clear hby hm hml hu hcl hcp
    go_enter Tryz.func16, Tryz.ntmps16
    go_upto_region 4 with fail
    rw [← HW1.out]
    go_upto_region 5 with fail
    go_region_law (first
        | (go_simp; go_at_call 17; refine (CE.out w1.drew (K1.out.drew)).mono ?_; rintro e w3 ⟨v3, rfl, n3⟩; have K3 := Lib.hid ((Kp.refl No w1).drew.no n3.kp); obtain ⟨_, s1⟩ := LB.out w3 K3.out; obtain ⟨g3, o3, cap3, hv3, hlc3⟩ : ∃ g3 o3 cap3, v3 = .slice (some ⟨g3, o3, none⟩) (cl.length + 1) cap3 ∧ w3.cell? ⟨g3, o3, none⟩ = some (.int .i64 c0) := (by
            have hr := n3.own.rd
            rcases hr with ⟨_, he⟩ | ⟨g3, o3, cap3, hv3, q⟩
            · cases he
            · have hr : Rd IK w3 v3 (c0 :: cl) := .inr ⟨g3, o3, cap3, hv3, q⟩
              rw [hv3] at hr
              exact ⟨g3, o3, cap3, hv3, by have := hr.intAt (i := 0) rfl; simpa using this⟩); subst hv3; obtain ⟨n3', hn3⟩ : ∃ z, z = cl.length + 1 := ⟨_, rfl⟩; rw [← hn3]; have hn30 : (0 : Int) < (n3' : Int) := by omega))
    all_goals
      (try go_wp2_with fail)
      go_ret3
      first
        | exact ⟨rfl, K1.out.no K3.out⟩
        | exact ⟨rfl, K1.out.no (K3.out.no (Kp.refl No _).drew)⟩
        | exact ⟨rfl, K1.out.no (K3.out.no ((Kp.refl No _).drewN 0))⟩
end Go.Proofs.YtfpikgkbccgchaaGreatDoor

namespace Go.Proofs.YtfpikgkbccgchaaGreatDoor
set_option linter.unusedVariables false
set_option linter.unusedSimpArgs false
open Go.RowKit

/-- Map bm holds es, in this order. -/
def MapI (w : World) (bm : Nat) (es : List (Int × Value)) : Prop :=
  ∃ arr clk, w.heap[bm]? = some (.map arr clk) ∧ arr.toList.map (fun e => (e.key, e.val)) = es.map (fun x => (Value.int .i64 x.1, x.2)) ∧ (es.map (·.1)).Nodup ∧ (∀ e ∈ arr.toList, e.born < clk) ∧ (arr.toList.map (·.born)).Nodup

def findI (c : Int) : List (Int × Value) → Nat → Option (Nat × Value)
  | [], _ => none
  | x :: xs, i => if c == x.1 then some (i, x.2) else findI c xs (i + 1)
def getV (es : List (Int × Value)) (c : Int) (z : Value) : Value := ((findI c es 0).map (·.2)).getD z
def hasV (es : List (Int × Value)) (c : Int) : Bool := (findI c es 0).isSome
def updV : List (Int × Value) → Int → Value → List (Int × Value)
  | [], c, v => [(c, v)]
  | x :: xs, c, v => if c == x.1 then (c, v) :: xs else x :: updV xs c v
def delV (es : List (Int × Value)) (c : Int) : List (Int × Value) := es.filter (fun x => !(x.1 == c))

theorem findI_shift (c : Int) (xs : List (Int × Value)) (i : Nat) : findI c xs i = (findI c xs 0).map fun r => (i + r.1, r.2) := by
  induction xs generalizing i with
  | nil => rfl
  | cons x xs ih =>
    unfold findI
    split
    · simp
    · rw [ih (i + 1), ih (0 + 1)]
      cases findI c xs 0 with
      | none => rfl
      | some r => simp; omega

theorem findNow_I (c : Int) : ∀ (es : List MapEntry) (xs : List (Int × Value)) (i : Nat), es.map (fun e => (e.key, e.val)) = xs.map (fun x => (Value.int .i64 x.1, x.2)) →
    Instr.findNow (.int .i64) (.int .i64 c) es i = some (findI c xs i)
  | [], [], _, _ => rfl
  | [], x :: xs, _, h => by simp at h
  | e :: es, [], _, h => by simp at h
  | e :: es, x :: xs, i, h => by
    simp only [List.map_cons, List.cons.injEq, Prod.mk.injEq] at h
    obtain ⟨⟨h1, h2⟩, h3⟩ := h
    have ih := findNow_I c es xs (i + 1) h3
    simp only [Instr.findNow, h1, h2, Instr.sameNow, findI, if_true]
    by_cases hc : c = x.1
    · simp [hc]
    · have hcb : (c == x.1) = false := by simp [hc]
      simp [hcb, ih]

section
variable {P : Program} {tm k e : TypeId} {w : World} {bm : Nat} {es : List (Int × Value)}

structure MapT (P : Program) (tm k e : TypeId) (z : Value) : Prop where
  und : P.underlying tm = some (.map k e)
  key : P.underlying k = some (.int .i64)
  zero : ∀ w, (zeroValue e).run P w = .ok z w

theorem MapI.heap (h : MapI w bm es) : ∃ o, w.heap[bm]? = some o := let ⟨_, _, h1, _⟩ := h; ⟨_, h1⟩
theorem MapI.lt (h : MapI w bm es) : bm < w.heap.size := let ⟨_, _, h1, _⟩ := h; lt_of_block h1
theorem MapI.kp {w' : World} {S : Nat → Prop} (h : MapI w bm es) (hk : Kp S w w') (hn : ¬ S bm) : MapI w' bm es :=
  let ⟨arr, clk, h1, h2⟩ := h
  ⟨arr, clk, hk.blk h1 hn, h2⟩
theorem MapI.made (w : World) : MapI (w.alloc (.map #[] 0)) w.heap.size [] := ⟨#[], 0, blk_new w _, rfl, by simp, by simp, by simp⟩

theorem run_checkKey (hk : P.underlying k = some (.int .i64)) (b : Bool) (n : Nat) (c : Int) (w : World) : (Instr.checkKey b (n + 1) k (.int .i64 c)).run P w = .ok () w := by
  simp [Instr.checkKey, run_underlying hk]

theorem MapI.look {z : Value} (T : MapT P tm k e z) (h : MapI w bm es) (c : Int) : (Instr.lookup tm (.map (some bm)) (.int .i64 c) false).run P w = .ok (getV es c z) w := by
  obtain ⟨arr, clk, hb, hm, _⟩ := h
  have hf := findNow_I c arr.toList es 0 hm
  have hck := run_checkKey (P := P) (k := k) T.key arr.isEmpty 9999 c w
  simp only [Instr.lookup, Instr.findKey]
  simp [run_underlying T.und, run_underlying T.key, MapKept.run_getObj_map hb, hck, hf]
  cases hr : findI c es 0 with
  | none => simp [getV, hr, T.zero w]
  | some r => simp [getV, hr]

theorem MapI.lookOk {z : Value} (T : MapT P tm k e z) (h : MapI w bm es) (c : Int) : (Instr.lookup tm (.map (some bm)) (.int .i64 c) true).run P w = .ok (.tuple #[getV es c z, .bool (hasV es c)]) w := by
  obtain ⟨arr, clk, hb, hm, _⟩ := h
  have hf := findNow_I c arr.toList es 0 hm
  have hck := run_checkKey (P := P) (k := k) T.key arr.isEmpty 9999 c w
  simp only [Instr.lookup, Instr.findKey]
  simp [run_underlying T.und, run_underlying T.key, MapKept.run_getObj_map hb, hck, hf]
  cases hr : findI c es 0 with
  | none => simp [getV, hasV, hr, T.zero w]
  | some r => simp [getV, hasV, hr]

theorem findI_some {c : Int} {xs : List (Int × Value)} {j : Nat} {u : Value} (h : findI c xs 0 = some (j, u)) : xs[j]? = some (c, u) ∧ ∀ v, updV xs c v = xs.set j (c, v) := by
  induction xs generalizing j with
  | nil => simp [findI] at h
  | cons x xs ih =>
    unfold findI at h
    by_cases hc : c = x.1
    · simp [hc] at h
      obtain ⟨rfl, rfl⟩ := h
      refine ⟨by simp [hc], fun v => by simp [updV, hc]⟩
    · simp only [beq_eq_false_iff_ne.2 hc] at h
      rw [findI_shift] at h
      simp only [Bool.false_eq_true, if_false, Option.map_eq_some_iff, Prod.mk.injEq, Prod.exists] at h
      obtain ⟨a, b, hr, rfl, rfl⟩ := h
      obtain ⟨i1, i2⟩ := ih hr
      refine ⟨by rw [Nat.add_comm]; simpa using i1, fun v => ?_⟩
      rw [Nat.add_comm]
      simp [updV, hc, i2 v]

theorem findI_none {c : Int} {xs : List (Int × Value)} (h : findI c xs 0 = none) : c ∉ xs.map (·.1) ∧ ∀ v, updV xs c v = xs ++ [(c, v)] := by
  induction xs with
  | nil => simp [updV]
  | cons x xs ih =>
    unfold findI at h
    by_cases hc : c = x.1
    · simp [hc] at h
    · simp only [beq_eq_false_iff_ne.2 hc] at h
      rw [findI_shift] at h
      simp only [Bool.false_eq_true, if_false, Option.map_eq_none_iff] at h
      obtain ⟨i1, i2⟩ := ih h
      refine ⟨by simp only [List.map_cons, List.mem_cons, not_or]; exact ⟨hc, i1⟩, fun v => by simp [updV, hc, i2 v]⟩

theorem MapI.upd {z : Value} (T : MapT P tm k e z) (h : MapI w bm es) (c : Int) (v : Value) :
    ∃ w', (Instr.mapUpdate tm (.map (some bm)) (.int .i64 c) v).run P w = .ok () w' ∧ MapI w' bm (updV es c v) ∧ Kp (fun j => j = bm) w w' := by
  obtain ⟨arr, clk, hb, hm, hnd, hborn, hbn⟩ := h
  have hlt := lt_of_block hb
  have hf := findNow_I c arr.toList es 0 hm
  have hck := run_checkKey (P := P) (k := k) T.key false 9999 c w
  cases hr : findI c es 0 with
  | none =>
    rw [hr] at hf
    obtain ⟨hnc, hu⟩ := findI_none hr
    refine ⟨{ w with heap := w.heap.setIfInBounds bm (.map (arr.push ⟨.int .i64 c, v, clk⟩) (clk + 1)) }, ?_, ?_, (Kp.refl (fun j => j = bm) w).setBlk (fun _ => rfl) _⟩
    · simp only [Instr.mapUpdate, Instr.findKey]
      simp [run_underlying T.und, run_underlying T.key, MapKept.run_getObj_map hb, hck, hf]
      simp [setObj, Sem.run, hb]
    · refine ⟨_, _, by simp [hlt]; exact ⟨rfl, rfl⟩, ?_, ?_, ?_, ?_⟩
      · simp [hu, hm]
      · rw [hu, List.map_append, List.nodup_append]
        refine ⟨hnd, by simp, ?_⟩
        intro a ha b hb' hab
        simp at hb'
        subst hb' hab
        exact hnc ha
      · intro e he
        simp at he
        rcases he with he | rfl
        · have := hborn e (by simpa using he); omega
        · simp
      · simp only [Array.toList_push, List.map_append, List.map_cons, List.map_nil]
        rw [List.nodup_append]
        refine ⟨hbn, by simp, ?_⟩
        intro a ha b hb' hab
        simp at hb'
        subst hb' hab
        obtain ⟨e, he, rfl⟩ := List.mem_map.1 ha
        have := hborn e he
        omega
  | some r =>
    obtain ⟨j, u⟩ := r
    rw [hr] at hf
    obtain ⟨hj, hu⟩ := findI_some hr
    obtain ⟨e0, he0, hek⟩ : ∃ e0, arr[j]? = some e0 ∧ e0.key = .int .i64 c := by
      have : (arr.toList.map (fun e => (e.key, e.val)))[j]? = some (Value.int .i64 c, u) := by rw [hm]; simp [hj]
      rw [List.getElem?_map] at this
      simp only [Option.map_eq_some_iff, Prod.mk.injEq] at this
      obtain ⟨e0, h1, h2, _⟩ := this
      exact ⟨e0, by simpa using h1, h2⟩
    have hjl : j < arr.size := (Array.getElem?_eq_some_iff.1 he0).1
    have hje : arr[j] = e0 := (Array.getElem?_eq_some_iff.1 he0).2
    have hkts : (Instr.keyThatStays (.int .i64 c) (.int .i64 c)).run P w = .ok (.int .i64 c) w := by simp [Instr.keyThatStays, Instr.sameBits]
    refine ⟨{ w with heap := w.heap.setIfInBounds bm (.map (arr.modify j fun e => { e with key := .int .i64 c, val := v }) clk) }, ?_, ?_, (Kp.refl (fun j => j = bm) w).setBlk (fun _ => rfl) _⟩
    · simp only [Instr.mapUpdate, Instr.findKey]
      simp [run_underlying T.und, run_underlying T.key, MapKept.run_getObj_map hb, hck, hf, he0, hek, hkts]
      simp [setObj, Sem.run, hb]
    · have hl : (arr.modify j fun e => { e with key := .int .i64 c, val := v }).toList = arr.toList.set j { e0 with key := .int .i64 c, val := v } := by
        apply List.ext_getElem?
        intro i
        rw [Array.getElem?_toList, Array.getElem?_modify, List.getElem?_set]
        by_cases hij : j = i
        · subst hij; simp [hje, hjl]
        · simp [hij]
      refine ⟨_, _, by simp [hlt]; exact ⟨rfl, rfl⟩, ?_, ?_, ?_, ?_⟩
      · rw [hl, List.map_set, hm, hu, List.map_set]
      · rw [hu, List.map_set]
        have : (es.map (·.1)).set j c = es.map (·.1) := by
          apply List.ext_getElem?
          intro i
          rw [List.getElem?_set]
          by_cases hij : j = i
          · subst hij; simp [hj]; exact (List.getElem?_eq_some_iff.1 hj).1
          · simp [hij]
        rw [this]; exact hnd
      · intro e he
        rw [hl] at he
        rcases List.mem_or_eq_of_mem_set he with h | rfl
        · exact hborn e h
        · exact hborn e0 (by simpa using Array.mem_of_getElem? he0)
      · rw [hl, List.map_set]
        have : (arr.toList.map (·.born)).set j e0.born = arr.toList.map (·.born) := by
          apply List.ext_getElem?
          intro i
          rw [List.getElem?_set]
          by_cases hij : j = i
          · subst hij; simp [hje, hjl]
          · simp [hij]
        rw [this]; exact hbn

/-! ### Ranging over a map -/

/-- Iterator r over map bm, that holds es; the entries of the keys 'done' have come. -/
def RangeI (w : World) (r bm : Nat) (es : List (Int × Value)) (done : List Int) : Prop :=
  ∃ arr clk seen since, w.heap[bm]? = some (.map arr clk) ∧ w.heap[r]? = some (.mapIter (some bm) since seen clk) ∧ arr.toList.map (fun e => (e.key, e.val)) = es.map (fun x => (Value.int .i64 x.1, x.2)) ∧ (es.map (·.1)).Nodup ∧
    (∀ e ∈ arr.toList, e.born < since) ∧ since ≤ clk ∧ (arr.toList.map (·.born)).Nodup ∧ ∀ e ∈ arr.toList, ∀ c, e.key = .int .i64 c → (seen.contains e.born = true ↔ c ∈ done)

theorem RangeI.map {r : Nat} {done : List Int} (h : RangeI w r bm es done) : MapI w bm es :=
  let ⟨arr, clk, _, _, h1, _, h3, h4, h5, h6, h7, _⟩ := h
  ⟨arr, clk, h1, h3, h4, fun e he => by have := h5 e he; omega, h7⟩
theorem RangeI.kp {w' : World} {S : Nat → Prop} {r : Nat} {done : List Int} (h : RangeI w r bm es done) (hk : Kp S w w') (h1 : ¬ S bm) (h2 : ¬ S r) : RangeI w' r bm es done :=
  let ⟨arr, clk, seen, since, a1, a2, a3⟩ := h
  ⟨arr, clk, seen, since, hk.blk a1 h1, hk.blk a2 h2, a3⟩
theorem RangeI.ne {r : Nat} {done : List Int} (h : RangeI w r bm es done) : r ≠ bm := by
  obtain ⟨arr, clk, seen, since, a1, a2, _⟩ := h
  rintro rfl
  rw [a1] at a2
  simp at a2
theorem RangeI.lt {r : Nat} {done : List Int} (h : RangeI w r bm es done) : r < w.heap.size := let ⟨_, _, _, _, _, a2, _⟩ := h; lt_of_block a2

theorem entry_of {arr : Array MapEntry} (hm : arr.toList.map (fun e => (e.key, e.val)) = es.map (fun x => (Value.int .i64 x.1, x.2))) {e : MapEntry} (he : e ∈ arr.toList) : ∃ x ∈ es, e.key = .int .i64 x.1 ∧ e.val = x.2 := by
  have : (e.key, e.val) ∈ es.map (fun x => (Value.int .i64 x.1, x.2)) := hm ▸ List.mem_map_of_mem (f := fun e : MapEntry => (e.key, e.val)) he
  obtain ⟨x, hx, hxe⟩ := List.mem_map.1 this
  simp only [Prod.mk.injEq] at hxe
  exact ⟨x, hx, hxe.1.symm, hxe.2.symm⟩
theorem of_entry {arr : Array MapEntry} (hm : arr.toList.map (fun e => (e.key, e.val)) = es.map (fun x => (Value.int .i64 x.1, x.2))) {x : Int × Value} (hx : x ∈ es) : ∃ e ∈ arr.toList, e.key = .int .i64 x.1 ∧ e.val = x.2 := by
  have : (Value.int .i64 x.1, x.2) ∈ arr.toList.map (fun e => (e.key, e.val)) := hm ▸ List.mem_map_of_mem (f := fun x : Int × Value => (Value.int .i64 x.1, x.2)) hx
  obtain ⟨e, he, hxe⟩ := List.mem_map.1 this
  simp only [Prod.mk.injEq] at hxe
  exact ⟨e, he, hxe⟩

theorem key_born {arr : Array MapEntry} (hm : arr.toList.map (fun e => (e.key, e.val)) = es.map (fun x => (Value.int .i64 x.1, x.2))) (hnd : (es.map (·.1)).Nodup) {e e' : MapEntry} (he : e ∈ arr.toList) (he' : e' ∈ arr.toList) {c : Int} (h1 : e.key = .int .i64 c) (h2 : e'.key = .int .i64 c) : e = e' := by
  obtain ⟨i, hi, rfl⟩ := List.getElem_of_mem he
  obtain ⟨j, hj, rfl⟩ := List.getElem_of_mem he'
  have key : ∀ (i : Nat) (hi : i < arr.toList.length), arr.toList[i].key = .int .i64 c → (es.map (·.1))[i]? = some c := by
    intro i hi h
    have h3 := congrArg (fun l => l[i]?) hm
    simp only [List.getElem?_map, List.getElem?_eq_getElem hi, Option.map_some, h] at h3
    cases hx : es[i]? with
    | none => rw [hx] at h3; simp at h3
    | some x => rw [hx] at h3; simp at h3; simp [hx, h3.1]
  have k1 := key i hi h1
  have k2 := key j hj h2
  have hli := (List.getElem?_eq_some_iff.1 k1).1
  have hlj := (List.getElem?_eq_some_iff.1 k2).1
  have e1 := (List.getElem?_eq_some_iff.1 k1).2
  have e2 := (List.getElem?_eq_some_iff.1 k2).2
  rcases Nat.lt_trichotomy i j with h | h | h
  · exact absurd (e1.trans e2.symm) (List.pairwise_iff_getElem.1 hnd i j hli hlj h)
  · subst h; rfl
  · exact absurd (e2.trans e1.symm) (List.pairwise_iff_getElem.1 hnd j i hlj hli h)

theorem MapI.range {z : Value} (T : MapT P tm k e z) (h : MapI w bm es) :
    (Instr.range tm (.map (some bm))).run P w = .ok (.pointer (some ⟨w.heap.size, 0, none⟩)) (w.alloc (.mapIter (some bm) ((h.choose_spec).choose) #[] ((h.choose_spec).choose))) ∧ RangeI (w.alloc (.mapIter (some bm) ((h.choose_spec).choose) #[] ((h.choose_spec).choose))) w.heap.size bm es [] := by
  obtain ⟨hb, hm, hnd, hborn, hbn⟩ := h.choose_spec.choose_spec
  refine ⟨run_range_map w tm k e bm _ _ T.und hb, _, _, #[], _, blk_alloc hb _, blk_new w _, hm, hnd, hborn, Nat.le_refl _, hbn, by simp⟩

theorem RangeI.next {r : Nat} {done : List Int} (ty : TypeId) (h : RangeI w r bm es done) :
    ((∀ x ∈ es, x.1 ∈ done) ∧ (Instr.next (.pointer (some ⟨r, 0, none⟩)) false ty).run P w = .ok (.tuple #[.bool false]) w) ∨
    ∃ x ∈ es, x.1 ∉ done ∧ ∃ w', (Instr.next (.pointer (some ⟨r, 0, none⟩)) false ty).run P w = .ok (.tuple #[.bool true, .int .i64 x.1, x.2]) w' ∧ RangeI w' r bm es (x.1 :: done) ∧ Kp (fun j => j = r) w w' ∧
      (Instr.entry (.pointer (some ⟨r, 0, none⟩))).run P w' = .ok (.tuple #[.int .i64 x.1, x.2]) w' := by
  have hrb := h.ne
  obtain ⟨arr, clk, seen, since, a1, a2, a3, a4, a5, a6, a7, a8⟩ := h
  rcases run_next_at (P := P) w ty r bm since clk seen arr clk a2 a1 a5 a6 with ⟨h0, hr⟩ | ⟨e, he, w1, hw1, hr⟩
  · refine .inl ⟨fun x hx => ?_, hr⟩
    obtain ⟨e, he, hk, _⟩ := of_entry a3 hx
    exact (a8 e he x.1 hk).1 (all_seen arr seen h0 e he)
  · obtain ⟨he1, he2⟩ := mem_left he
    obtain ⟨x, hx, hk, hv⟩ := entry_of a3 he1
    have hb1 : w1.heap[bm]? = some (.map arr clk) := by rcases hw1 with rfl | rfl <;> exact a1
    have hr1 : w1.heap[r]? = some (.mapIter (some bm) since seen clk) := by rcases hw1 with rfl | rfl <;> exact a2
    have hk1 : Kp (fun j => j = r) w w1 := by
      rcases hw1 with rfl | rfl
      · exact Kp.refl _ _
      · exact (Kp.refl _ _).drew
    have hkk : Kp (fun j => j = r) w (ChangeMaps.setBlock w1 r (.mapIter (some bm) since (seen.push e.born) clk)) := hk1.setBlk (fun _ => rfl) _
    have hb2 : (ChangeMaps.setBlock w1 r (.mapIter (some bm) since (seen.push e.born) clk)).heap[bm]? = some (.map arr clk) := by
      simp [ChangeMaps.setBlock, hrb, hb1]
    have hr2 : (ChangeMaps.setBlock w1 r (.mapIter (some bm) since (seen.push e.born) clk)).heap[r]? = some (.mapIter (some bm) since (seen.push e.born) clk) := by
      have := lt_of_block hr1
      simp [ChangeMaps.setBlock, this]
    refine .inr ⟨x, hx, fun hd => ?_, _, by rw [← hk, ← hv]; exact hr, ⟨arr, clk, seen.push e.born, since, hb2, hr2, a3, a4, a5, a6, a7, ?_⟩, hkk, ?_⟩
    · have := (a8 e he1 x.1 hk).2 hd
      rw [he2] at this
      cases this
    · intro e' he' c hc
      rw [contains_push, Bool.or_eq_true, a8 e' he' c hc, List.mem_cons]
      constructor
      · rintro (h | h)
        · exact .inr h
        · have hbe : e'.born = e.born := by simpa using h
          obtain rfl := born_inj a7 he' he1 hbe
          rw [hk] at hc
          simp at hc
          exact .inl hc.symm
      · rintro (rfl | h)
        · exact .inr (by rw [key_born a3 a4 he' he1 hc hk]; simp)
        · exact .inl h
    · have := run_entry_at (P := P) _ r bm since seen arr clk e hr2 hb2 he1 a7
      rw [this, hk, hv]

theorem RangeI.upd {z : Value} {r : Nat} {done : List Int} (T : MapT P tm k e z) (h : RangeI w r bm es done) (c : Int) (hc : c ∈ es.map (·.1)) (v : Value) :
    ∃ w', (Instr.mapUpdate tm (.map (some bm)) (.int .i64 c) v).run P w = .ok () w' ∧ RangeI w' r bm (updV es c v) done ∧ Kp (fun j => j = bm) w w' := by
  have hrb := h.ne
  obtain ⟨arr, clk, seen, since, hb, hit, hm, hnd, hborn, hsc, hbn, hseen⟩ := h
  have hlt := lt_of_block hb
  have hf := findNow_I c arr.toList es 0 hm
  have hck := run_checkKey (P := P) (k := k) T.key false 9999 c w
  cases hr : findI c es 0 with
  | none => exact absurd hc (findI_none hr).1
  | some q =>
    obtain ⟨j, u⟩ := q
    rw [hr] at hf
    obtain ⟨hj, hu⟩ := findI_some hr
    obtain ⟨e0, he0, hek⟩ : ∃ e0, arr[j]? = some e0 ∧ e0.key = .int .i64 c := by
      have : (arr.toList.map (fun e => (e.key, e.val)))[j]? = some (Value.int .i64 c, u) := by rw [hm]; simp [hj]
      rw [List.getElem?_map] at this
      simp only [Option.map_eq_some_iff, Prod.mk.injEq] at this
      obtain ⟨e0, h1, h2, _⟩ := this
      exact ⟨e0, by simpa using h1, h2⟩
    have hjl : j < arr.size := (Array.getElem?_eq_some_iff.1 he0).1
    have hje : arr[j] = e0 := (Array.getElem?_eq_some_iff.1 he0).2
    have hkts : (Instr.keyThatStays (.int .i64 c) (.int .i64 c)).run P w = .ok (.int .i64 c) w := by simp [Instr.keyThatStays, Instr.sameBits]
    have hl : (arr.modify j fun e => { e with key := .int .i64 c, val := v }).toList = arr.toList.set j { e0 with key := .int .i64 c, val := v } := by
      apply List.ext_getElem?
      intro i
      rw [Array.getElem?_toList, Array.getElem?_modify, List.getElem?_set]
      by_cases hij : j = i
      · subst hij; simp [hje, hjl]
      · simp [hij]
    have he0m : e0 ∈ arr.toList := by simpa using Array.mem_of_getElem? he0
    refine ⟨{ w with heap := w.heap.setIfInBounds bm (.map (arr.modify j fun e => { e with key := .int .i64 c, val := v }) clk) }, ?_, ?_, (Kp.refl (fun j => j = bm) w).setBlk (fun _ => rfl) _⟩
    · simp only [Instr.mapUpdate, Instr.findKey]
      simp [run_underlying T.und, run_underlying T.key, MapKept.run_getObj_map hb, hck, hf, he0, hek, hkts]
      simp [setObj, Sem.run, hb]
    · refine ⟨arr.modify j fun e => { e with key := .int .i64 c, val := v }, clk, seen, since, by simp [hlt], by simp [Ne.symm hrb, hit], ?_, ?_, ?_, hsc, ?_, ?_⟩
      · rw [hl, List.map_set, hm, hu, List.map_set]
      · rw [hu, List.map_set]
        have : (es.map (·.1)).set j c = es.map (·.1) := by
          apply List.ext_getElem?
          intro i
          rw [List.getElem?_set]
          by_cases hij : j = i
          · subst hij; simp [hj]; exact (List.getElem?_eq_some_iff.1 hj).1
          · simp [hij]
        rw [this]; exact hnd
      · intro e he
        rw [hl] at he
        rcases List.mem_or_eq_of_mem_set he with h | rfl
        · exact hborn e h
        · exact hborn e0 he0m
      · rw [hl, List.map_set]
        have : (arr.toList.map (·.born)).set j e0.born = arr.toList.map (·.born) := by
          apply List.ext_getElem?
          intro i
          rw [List.getElem?_set]
          by_cases hij : j = i
          · subst hij; simp [hje, hjl]
          · simp [hij]
        rw [this]; exact hbn
      · intro e he c' hc'
        rw [hl] at he
        rcases List.mem_or_eq_of_mem_set he with h | rfl
        · exact hseen e h c' hc'
        · simp only at hc'
          exact hseen e0 he0m c' (hek.trans hc')
end
end Go.Proofs.YtfpikgkbccgchaaGreatDoor

namespace Go.Proofs.YtfpikgkbccgchaaGreatDoor
set_option linter.unusedVariables false
set_option linter.unusedSimpArgs false
open Go.RowKit

theorem del_erase {c : Int} {u : Value} : ∀ {es : List (Int × Value)} {j : Nat}, (es.map (·.1)).Nodup → es[j]? = some (c, u) → delV es c = es.eraseIdx j
  | [], _, _, h => by simp at h
  | x :: xs, 0, hn, h => by
    simp at h
    subst h
    simp only [List.map_cons, List.nodup_cons] at hn
    unfold delV
    rw [List.filter_cons]
    simp only [beq_self_eq_true, Bool.not_true, Bool.false_eq_true, if_false, List.eraseIdx_cons_zero]
    rw [List.filter_eq_self]
    intro y hy
    have : y.1 ≠ c := fun e => hn.1 (by rw [← e]; exact List.mem_map_of_mem hy)
    simp [this]
  | x :: xs, j + 1, hn, h => by
    simp only [List.map_cons, List.nodup_cons] at hn
    have h2 : xs[j]? = some (c, u) := by simpa using h
    have hne : x.1 ≠ c := fun e => hn.1 (by rw [e]; exact List.mem_map_of_mem (f := (·.1)) (List.mem_of_getElem? h2))
    unfold delV
    rw [List.filter_cons, if_pos (by simp [hne]), List.eraseIdx_cons_succ]
    exact congrArg _ (del_erase hn.2 h2)
theorem del_none {c : Int} {es : List (Int × Value)} (h : c ∉ es.map (·.1)) : delV es c = es := by
  unfold delV
  rw [List.filter_eq_self]
  intro y hy
  have : y.1 ≠ c := fun e => h (by rw [← e]; exact List.mem_map_of_mem hy)
  simp [this]

theorem map_eraseIdx' {α β : Type} (f : α → β) : ∀ (l : List α) (i : Nat), (l.eraseIdx i).map f = (l.map f).eraseIdx i
  | [], _ => rfl
  | _ :: _, 0 => rfl
  | x :: xs, i + 1 => congrArg (f x :: ·) (map_eraseIdx' f xs i)
section
variable {P : Program} {w w' : World} {bm : Nat} {es : List (Int × Value)} {tm k e : TypeId}
theorem MapI.del {z : Value} (T : MapT P tm k e z) (h : MapI w bm es) (c : Int) :
    ∃ w', (∀ ty, (Builtin.delete_ #[tm, k] ty #[.map (some bm), .int .i64 c]).run P w = .ok (.tuple #[]) w') ∧ MapI w' bm (delV es c) ∧ Kp (fun j => j = bm) w w' := by
  obtain ⟨arr, clk, hb, hm, hnd, hborn, hbn⟩ := h
  have hlt := lt_of_block hb
  have hf := findNow_I c arr.toList es 0 hm
  have hck := run_checkKey (P := P) (k := k) T.key arr.isEmpty 9999 c w
  cases hr : findI c es 0 with
  | none =>
    rw [hr] at hf
    obtain ⟨hnc, _⟩ := findI_none hr
    refine ⟨{ w with heap := w.heap.setIfInBounds bm (.map arr clk) }, fun ty => ?_, ?_, (Kp.refl (fun j => j = bm) w).setBlk (fun _ => rfl) _⟩
    · simp only [Builtin.delete_, Instr.findKey]
      simp [run_underlying T.und, run_underlying T.key, MapKept.run_getObj_map hb, hck, hf]
      simp [setObj, Sem.run, hb]
    · rw [del_none hnc]
      exact ⟨arr, clk, by simp [hlt], hm, hnd, hborn, hbn⟩
  | some r =>
    obtain ⟨j, u⟩ := r
    rw [hr] at hf
    obtain ⟨hj, _⟩ := findI_some hr
    have hjs : j < arr.size := by
      have h1 : j < es.length := (List.getElem?_eq_some_iff.1 hj).1
      have h2 := congrArg List.length hm
      simp at h2
      omega
    have hl : (arr.eraseIdxIfInBounds j).toList = arr.toList.eraseIdx j := by
      unfold Array.eraseIdxIfInBounds
      rw [dif_pos hjs]
      simp
    refine ⟨{ w with heap := w.heap.setIfInBounds bm (.map (arr.eraseIdxIfInBounds j) clk) }, fun ty => ?_, ?_, (Kp.refl (fun j => j = bm) w).setBlk (fun _ => rfl) _⟩
    · simp only [Builtin.delete_, Instr.findKey]
      simp [run_underlying T.und, run_underlying T.key, MapKept.run_getObj_map hb, hck, hf]
      simp [setObj, Sem.run, hb]
    · rw [del_erase hnd hj]
      refine ⟨_, _, by simp [hlt]; exact ⟨rfl, rfl⟩, ?_, ?_, ?_, ?_⟩
      · rw [hl, map_eraseIdx', map_eraseIdx', hm]
      · rw [map_eraseIdx']; exact hnd.sublist (List.eraseIdx_sublist _ _)
      · intro e he; rw [hl] at he; exact hborn e ((List.eraseIdx_sublist _ _).subset he)
      · rw [hl, map_eraseIdx']; exact hbn.sublist (List.eraseIdx_sublist _ _)
theorem MapI.len {z : Value} (T : MapT P tm k e z) (h : MapI w bm es) (ty : TypeId) : (Builtin.len_ #[tm] ty #[.map (some bm)]).run P w = .ok (goInt es.length) w := by
  obtain ⟨arr, clk, hb, hm, _⟩ := h
  have h2 := congrArg List.length hm
  simp at h2
  simp [Builtin.len_, run_underlying T.und, MapKept.run_getObj_map hb, h2]

/-! ### Sets of ints -/
def SetI (w : World) (bm : Nat) (L : List Int) : Prop := MapI w bm (L.map fun x => (x, Value.bool true))
theorem SetI.kp {S : Nat → Prop} {L : List Int} (h : SetI w bm L) (hk : Kp S w w') (hn : ¬ S bm) : SetI w' bm L := MapI.kp h hk hn
theorem SetI.made (w : World) : SetI (w.alloc (.map #[] 0)) w.heap.size [] := MapI.made w
theorem findI_set (c : Int) : ∀ (L : List Int) (i : Nat), (findI c (L.map fun x => (x, Value.bool true)) i).map (·.2) = if c ∈ L then some (Value.bool true) else none
  | [], i => rfl
  | x :: xs, i => by
    simp only [List.map_cons, findI]
    by_cases h : c = x
    · subst h; simp
    · rw [if_neg (by simpa using h), findI_set c xs (i + 1)]; simp [h]
theorem getV_set (c : Int) (L : List Int) : getV (L.map fun x => (x, Value.bool true)) c (.bool false) = .bool (decide (c ∈ L)) := by
  unfold getV
  rw [findI_set]
  by_cases h : c ∈ L
  · rw [if_pos h, decide_eq_true h]; rfl
  · rw [if_neg h, decide_eq_false h]; rfl
def addS (L : List Int) (c : Int) : List Int := if c ∈ L then L else L ++ [c]
theorem updV_set (c : Int) : ∀ (L : List Int), updV (L.map fun x => (x, Value.bool true)) c (.bool true) = (addS L c).map fun x => (x, Value.bool true)
  | [] => rfl
  | x :: xs => by
    simp only [List.map_cons, updV]
    by_cases h : c = x
    · subst h; simp [addS]
    · rw [if_neg (by simpa using h), updV_set c xs]
      unfold addS
      by_cases h2 : c ∈ xs
      · simp [h, h2]
      · simp [h, h2]
theorem delV_set (c : Int) (L : List Int) : delV (L.map fun x => (x, Value.bool true)) c = (L.filter fun x => x != c).map fun x => (x, Value.bool true) := by
  unfold delV
  rw [List.filter_map]
  rfl
theorem SetI.look {L : List Int} (T : MapT P tm k e (.bool false)) (h : SetI w bm L) (c : Int) : (Instr.lookup tm (.map (some bm)) (.int .i64 c) false).run P w = .ok (.bool (decide (c ∈ L))) w := by rw [← getV_set]; exact MapI.look T h c
theorem SetI.add {L : List Int} (T : MapT P tm k e (.bool false)) (h : SetI w bm L) (c : Int) : ∃ w', (Instr.mapUpdate tm (.map (some bm)) (.int .i64 c) (.bool true)).run P w = .ok () w' ∧ SetI w' bm (addS L c) ∧ Kp (fun j => j = bm) w w' := by
  obtain ⟨w', h1, h2, h3⟩ := MapI.upd T h c (.bool true)
  exact ⟨w', h1, by unfold SetI; rw [← updV_set]; exact h2, h3⟩
theorem SetI.del {L : List Int} (T : MapT P tm k e (.bool false)) (h : SetI w bm L) (c : Int) : ∃ w', (∀ ty, (Builtin.delete_ #[tm, k] ty #[.map (some bm), .int .i64 c]).run P w = .ok (.tuple #[]) w') ∧ SetI w' bm (L.filter fun x => x != c) ∧ Kp (fun j => j = bm) w w' := by
  obtain ⟨w', h1, h2, h3⟩ := MapI.del T h c
  exact ⟨w', h1, by unfold SetI; rw [← delV_set]; exact h2, h3⟩
theorem SetI.len {L : List Int} (T : MapT P tm k e (.bool false)) (h : SetI w bm L) (ty : TypeId) : (Builtin.len_ #[tm] ty #[.map (some bm)]).run P w = .ok (goInt L.length) w := by
  have := MapI.len T h ty
  rwa [List.length_map] at this
theorem SetI.lt {L : List Int} (h : SetI w bm L) : bm < w.heap.size := MapI.lt h
end
end Go.Proofs.YtfpikgkbccgchaaGreatDoor

namespace Go.Proofs.YtfpikgkbccgchaaGreatDoor
set_option linter.unusedVariables false
set_option linter.unusedSimpArgs false
open Go.RowKit

theorem WldS.updP {G : Nat → Prop} {w0 w w' : World} {pw : Nat} {uv pv : Value} {U : List Un} {P : List (Int × Int)} {S : Nat → Prop} {i : Nat} {u u' : Un} {x : PU} (h : WldS G w0 pw uv pv U P w) (hi : U[i]? = some u) (hk : Kp S w w') (hS : ∀ k, S k → UnB u k) (hu : UnM G w0.heap.size u' w') (hp : u'.ptr = u.ptr) (hb : ∀ k, UnB u' k → UnB u k ∨ w.heap.size ≤ k) (he : u'.pl = x) : WldP G w0 pw ((U.map Un.pl).set i x) P w' :=
  ⟨uv, pv, U.set i u', h.upd hi hk hS hu hp hb, by rw [List.map_set, he]⟩
theorem WldS.p {G : Nat → Prop} {w0 w : World} {pw : Nat} {uv pv : Value} {U : List Un} {P : List (Int × Int)} (h : WldS G w0 pw uv pv U P w) : WldP G w0 pw (U.map Un.pl) P w := ⟨uv, pv, U, h, rfl⟩
theorem UnB.t {u : Un} {k : Nat} (h : k = u.pt ∨ u.VT.ownBlock = some k) : UnB u k := by
  rcases h with h | h
  · exact .inr (.inr (.inr (.inl h)))
  · exact .inr (.inr (.inr (.inr (.inr (.inl h)))))
theorem UnB.f {u : Un} {k : Nat} (h : k = u.pf ∨ u.VF.ownBlock = some k) : UnB u k := by
  rcases h with h | h
  · exact .inr (.inr (.inr (.inr (.inl h))))
  · exact .inr (.inr (.inr (.inr (.inr (.inr h)))))
theorem UnB.r {u : Un} {k : Nat} (h : k = u.pr ∨ k = u.ph ∨ k = u.ps) : UnB u k := by
  rcases h with h | h | h
  · exact .inl h
  · exact .inr (.inl h)
  · exact .inr (.inr (.inl h))
theorem getP_some {W : List PU} {k : Nat} {u : PU} (h : W[k]? = some u) : getP W (k : Int) = some u := by
  have hk := (List.getElem?_eq_some_iff.1 h).1
  unfold getP hasB
  rw [if_pos (by simp; omega)]
  simpa using h
/-- The pointers of a unit, in memory. -/
theorem WldS.ptrs {G : Nat → Prop} {w0 w : World} {pw : Nat} {uv pv : Value} {U : List Un} {P : List (Int × Int)} (h : WldS G w0 pw uv pv U P w) {k : Nat} {u : Un} (hu : U[k]? = some u) : ∃ g o cap, w.cell? ⟨pw, 0, none⟩ = some (.slice (some ⟨g, o, none⟩) U.length cap) ∧ w.cell? ⟨g, o + k * 3, none⟩ = some (.pointer (some ⟨u.pr, 0, none⟩)) ∧ w.cell? ⟨g, o + k * 3 + 1, none⟩ = some (.pointer (some ⟨u.pt, 0, none⟩)) ∧ w.cell? ⟨g, o + k * 3 + 2, none⟩ = some (.pointer (some ⟨u.pf, 0, none⟩)) ∧ k < U.length := by
  have hum : (U.map Un.ptr)[k]? = some u.ptr := by rw [List.getElem?_map, hu]; rfl
  have hus := h.us.rd
  have hc : w.cell? ⟨pw, 0, none⟩ = some uv := (blk_cell h.blk 0).trans rfl
  rcases hus with ⟨_, he⟩ | ⟨g, o, cap', hv, q⟩
  · rw [he] at hum; cases hum
  have hus : Rd UnK w uv (U.map Un.ptr) := .inr ⟨g, o, cap', hv, q⟩
  rw [hv, List.length_map] at hus hc
  exact ⟨g, o, cap', hc, hus.at rfl hum (j := 0) rfl, hus.at rfl hum (j := 1) rfl, hus.at rfl hum (j := 2) rfl, (List.getElem?_eq_some_iff.1 hu).1⟩
theorem wsend_nil (w : World) (i : Int) (v : Value) : Calls Tryz.prog 21 #[.pointer none, .int .i64 i, v] w fun e w' => e = .returned (.int .i64 2) ∧ Kp No w w' := by
  go_enter Tryz.func21, Tryz.ntmps21
  go_wp2_with fail
  refine (whas_nil w i).mono ?_
  rintro e w1 ⟨rfl, rfl⟩
  go_wp2_with fail
  go_ret
  exact ⟨rfl, Kp.refl _ _⟩
set_option maxRecDepth 100000 in
theorem wsend_any {G : Nat → Prop} {w0 w : World} {pw : Nat} {W : List PU} {P : List (Int × Int)} (h : WldP G w0 pw W P w) (i : Int) {v : Value} {b : List Nat} (hv : Rd BK w v b) (hl : b.length ≤ 1000000) (hx : ∀ y ∈ b, y < 256) : Calls Tryz.prog 21 #[.pointer (some ⟨pw, 0, none⟩), .int .i64 i, v] w fun e w' => e = .returned (.int .i64 (sendP W i b).2) ∧ WldP G w0 pw (sendP W i b).1 P w' := by
  obtain ⟨uv, pv, U, h, rfl⟩ := h
  have WH := Lib.hid (whas_any h i)
  cases hg : getU U i with
  | none =>
    have HE := Lib.hid (show sendP (U.map Un.pl) i b = (U.map Un.pl, 1) by unfold sendP; rw [getP_pl, hg]; rfl)
    have HH := Lib.hid (show hasE U.length i = 1 by
      unfold hasE
      rw [if_neg]
      intro hb
      obtain ⟨k, rfl, hk⟩ := hasB_nat hb
      rw [getU_of (List.getElem?_eq_getElem hk)] at hg; cases hg)
    rw [HH.out] at WH
    have H := Lib.hid h.p
    clear h hg hv hx
    go_enter Tryz.func21, Tryz.ntmps21
    go_wp2_with fail
    refine WH.out.mono ?_
    rintro e w1 ⟨rfl, rfl⟩
    go_wp2_with fail
    go_ret
    exact ⟨by rw [HE.out]; rfl, by rw [HE.out]; exact H.out⟩
  | some u =>
    obtain ⟨k, rfl, hu⟩ := getU_some hg
    obtain ⟨g, o, cap, p0, p1, p2, p3, hk⟩ := h.ptrs hu
    have HH := Lib.hid (show hasE U.length (k : Int) = 0 by unfold hasE hasB; rw [if_pos (by simp; omega)])
    rw [HH.out] at WH
    have HM := Lib.hid (h.un k u hu)
    have H := Lib.hid h; have HU := Lib.hid hu
    have HG := Lib.hid (show getP (U.map Un.pl) (k : Int) = some u.pl by rw [getP_pl, hg]; rfl)
    have hkI : (k : Int) < (U.length : Int) := by omega
    have hk0 : ¬ (k : Int) < 0 := by omega
    obtain ⟨n, hn⟩ : ∃ z, z = U.length := ⟨_, rfl⟩
    rw [← hn] at hkI p0
    have SE := Lib.hid (send_any HM.out.to_ hv hl hx)
    clear h hg hu hv hx hn hk p1 p3
    go_enter Tryz.func21, Tryz.ntmps21
    go_wp2_with fail
    refine WH.out.mono ?_
    rintro e w1 ⟨rfl, rfl⟩
    go_wp2_with fail
    refine SE.out.mono ?_
    rintro e w2 (⟨hlt, rfl, V', x, rfl, net, hkp, hvb⟩ | ⟨hge, rfl, rfl⟩)
    · have HE := Lib.hid (show sendP (U.map Un.pl) (k : Int) x.b = ((U.map Un.pl).set k { u.pl with T := u.pl.T ++ [x.b] }, 0) by
        unfold sendP; rw [HG.out]
        simp only
        rw [if_neg (by simp [Un.pl]; omega)]
        simp)
      obtain ⟨u', hu', e1, e2, e3, e4, e5⟩ := HM.out.setT H.out.kp.size hkp net hvb ⟨by simp; omega, fun y hy => by rcases List.mem_append.1 hy with hy | hy; exact HM.out.lt.2 y hy; rw [List.mem_singleton.1 hy]; exact hl⟩
      have HF := Lib.hid (H.out.updP HU.out hkp (fun k hk => UnB.t hk) hu' e4 e5 (x := { u.pl with T := u.pl.T ++ [x.b] }) (by unfold Un.pl; rw [e1, e2, e3]; simp))
      clear hlt net hkp hvb hu' e1 e2 e3 e4 e5
      go_wp2_with fail
      go_ret
      exact ⟨by rw [HE.out]; rfl, by rw [HE.out]; exact HF.out⟩
    · have HE := Lib.hid (show sendP (U.map Un.pl) (k : Int) b = (U.map Un.pl, 4) by
        unfold sendP; rw [HG.out]
        simp only
        rw [if_pos (by simp [Un.pl]; omega)])
      clear hge
      go_wp2_with fail
      go_ret
      exact ⟨by rw [HE.out]; rfl, by rw [HE.out]; exact H.out.p⟩

/-! ### come -/
structure ComeS (p : Nat) (V : Value) (l : List SlH) (x : Int) (keep : Bool) (w w' : World) : Prop where
  net : ∃ V', NetS p V' (if keep then l else delB l x) w' ∧ ∀ g, V'.ownBlock = some g → V.ownBlock = some g
  kp : Kp (fun k => k = p ∨ V.ownBlock = some k) w w'
def ComeR (p : Nat) (V : Value) (l : List SlH) (x : Int) (keep : Bool) (w : World) (e : Ending) (w' : World) : Prop :=
  ∃ v', e = .returned (.tuple #[v', .bool (hasB l.length x)]) ∧ Own BK 5 w' v' (atB l x) ∧ (∀ g, v'.ownBlock = some g → w.heap.size ≤ g) ∧ ComeS p V l x keep w w'
set_option maxRecDepth 100000 in
theorem come_nil (w : World) (x : Int) (keep : Bool) : Calls Tryz.prog 56 #[.pointer none, .int .i64 x, .bool keep] w fun e w' => e = .returned (.tuple #[.slice none 0 0, .bool false]) ∧ w = w' := by
  cases keep
  · go_enter Tryz.func56, Tryz.ntmps56
    go_wp2_with fail
    refine (take_nil w x).mono ?_
    rintro e w1 ⟨rfl, rfl⟩
    go_wp2_with fail
    go_ret2
    exact ⟨rfl, rfl⟩
  · go_enter Tryz.func56, Tryz.ntmps56
    go_wp2_with fail
    refine (peek_nil w x).mono ?_
    rintro e w1 ⟨rfl, rfl⟩
    go_wp2_with fail
    go_ret2
    exact ⟨rfl, rfl⟩
set_option maxRecDepth 100000 in
theorem come_any {w : World} {p : Nat} {V : Value} {l : List SlH} (h : NetS p V l w) (hl : ∀ x ∈ l, x.b.length ≤ 1000000) (hn : l.length ≤ 1000000) (x : Int) (hx : (Lit.int .i64 x).wf = true) (keep : Bool) : Calls Tryz.prog 56 #[.pointer (some ⟨p, 0, none⟩), .int .i64 x, .bool keep] w (ComeR p V l x keep w) := by
  have H := Lib.hid h
  obtain ⟨B, hB⟩ : ∃ B, B = atB l x := ⟨_, rfl⟩
  have HB := Lib.hid hB
  cases keep
  · have TN := Lib.hid (takeN_any h hl hn x hx)
    clear h hl hn hx hB
    go_enter Tryz.func56, Tryz.ntmps56
    go_wp2_with fail
    refine TN.out.mono ?_
    rintro e w1 ⟨v1, rfl, o1, g1, t1⟩
    rw [← HB.out] at o1
    obtain ⟨A1, c1, rfl⟩ := o1.rd.shape
    have O1 := Lib.hid o1; have G1 := Lib.hid g1; have T1 := Lib.hid t1
    clear o1 g1 t1
    go_wp2_with fail
    go_ret2
    exact ⟨_, rfl, by rw [← HB.out]; exact O1.out, G1.out, T1.out.net, T1.out.kp⟩
  · have TN := Lib.hid (peek_any h hl hn x)
    clear h hl hn hx hB
    go_enter Tryz.func56, Tryz.ntmps56
    go_wp2_with fail
    refine TN.out.mono ?_
    rintro e w1 ⟨v1, rfl, n1⟩
    rw [← HB.out] at n1
    obtain ⟨A1, c1, rfl⟩ := n1.own.rd.shape
    have N1 := Lib.hid n1
    clear n1
    go_wp2_with fail
    go_ret2
    exact ⟨_, rfl, by rw [← HB.out]; exact N1.out.own, N1.out.ge, ⟨V, H.out.no N1.out.kp, fun g hg => hg⟩, N1.out.kp.mono fun _ _ e => e.elim⟩
theorem atB_pl (l : List SlH) (x : Int) : atB l x = atP (l.map (·.b)) x := by
  unfold atB atP
  rw [List.length_map, List.getElem?_map]
theorem delB_pl (l : List SlH) (x : Int) : (delB l x).map (·.b) = delP (l.map (·.b)) x := by
  unfold delB delP
  rw [List.length_map]
  split
  · rw [map_eraseIdx']
  · rfl
theorem delB_len (l : List SlH) (x : Int) : (delB l x).length ≤ l.length := by
  unfold delB
  split
  · exact List.length_eraseIdx_le ..
  · exact Nat.le_refl _
theorem delB_mem {l : List SlH} {x : Int} {y : SlH} (h : y ∈ delB l x) : y ∈ l := by
  unfold delB at h
  split at h
  · exact List.mem_of_mem_eraseIdx h
  · exact h
theorem hasB_no {l : List SlH} {x : Int} (h : hasB l.length x = false) (keep : Bool) : (if keep then l else delB l x) = l ∧ atB l x = [] := by
  unfold delB atB
  rw [h]
  cases keep <;> simp
theorem set_self {α : Type} {L : List α} {k : Nat} {x : α} (h : L[k]? = some x) : L.set k x = L := by
  refine List.ext_getElem? fun j => ?_
  rw [List.getElem?_set]
  by_cases ej : k = j
  · subst ej
    rw [if_pos rfl, if_pos (List.getElem?_eq_some_iff.1 h).1, h]
  · rw [if_neg ej]
theorem keep_len {l : List SlH} {x : Int} {keep : Bool} (h : l.length ≤ 1024 ∧ ∀ x ∈ l, x.b.length ≤ 1000000) : (if keep then l else delB l x).length ≤ 1024 ∧ ∀ y ∈ (if keep then l else delB l x), y.b.length ≤ 1000000 := by
  cases keep
  · exact ⟨Nat.le_trans (delB_len l x) h.1, fun y hy => h.2 y (delB_mem hy)⟩
  · exact h
end Go.Proofs.YtfpikgkbccgchaaGreatDoor

namespace Go.Proofs.YtfpikgkbccgchaaGreatDoor
set_option linter.unusedVariables false
set_option linter.unusedSimpArgs false
open Go.RowKit

def FetchR (G : Nat → Prop) (w0 : World) (pw : Nat) (W : List PU) (P : List (Int × Int)) (i x : Int) (keep : Bool) (w : World) (e : Ending) (w' : World) : Prop :=
  ∃ v', e = .returned (.tuple #[v', .bool (fetchP W i x keep).2.2]) ∧ Own BK 5 w' v' (fetchP W i x keep).2.1 ∧ (∀ g, v'.ownBlock = some g → w.heap.size ≤ g) ∧ WldP G w0 pw (fetchP W i x keep).1 P w'
theorem wfetch_nil (w : World) (i x : Int) (keep : Bool) : Calls Tryz.prog 19 #[.pointer none, .int .i64 i, .int .i64 x, .bool keep] w fun e w' => e = .returned (.tuple #[.slice none 0 0, .bool false]) ∧ Kp No w w' := by
  have UN := Lib.hid (unit_nil w i)
  unfold ptrV at UN
  simp only at UN
  go_enter Tryz.func19, Tryz.ntmps19
  go_wp2_with fail
  refine UN.out.mono ?_
  rintro e w1 ⟨rfl, k1⟩
  have K1 := Lib.hid k1
  clear k1
  have hf0 := fld2 (.pointer none) (.pointer none) (.pointer none)
  go_wp2_with fail
  refine (come_nil w1 x keep).mono ?_
  rintro e w2 ⟨rfl, rfl⟩
  go_wp2_with fail
  go_ret2
  exact ⟨rfl, K1.out⟩
set_option maxRecDepth 100000 in
theorem wfetch_any {G : Nat → Prop} {w0 w : World} {pw : Nat} {W : List PU} {P : List (Int × Int)} (h : WldP G w0 pw W P w) (i x : Int) (hx : (Lit.int .i64 x).wf = true) (keep : Bool) : Calls Tryz.prog 19 #[.pointer (some ⟨pw, 0, none⟩), .int .i64 i, .int .i64 x, .bool keep] w (FetchR G w0 pw W P i x keep w) := by
  obtain ⟨uv, pv, U, h, rfl⟩ := h
  have UN := Lib.hid (unit_any h i)
  have WFX := Lib.hid hx
  cases hg : getU U i with
  | none =>
    have HG := Lib.hid (show getP (U.map Un.pl) i = none by rw [getP_pl, hg]; rfl)
    have H := Lib.hid h.p
    rw [hg] at UN
    unfold ptrV at UN
    simp only at UN
    clear h hg hx
    go_enter Tryz.func19, Tryz.ntmps19
    go_wp2_with fail
    refine UN.out.mono ?_
    rintro e w1 ⟨rfl, k1⟩
    have K1 := Lib.hid k1
    clear k1
    have hf0 := fld2 (.pointer none) (.pointer none) (.pointer none)
    go_wp2_with fail
    refine (come_nil w1 x keep).mono ?_
    rintro e w2 ⟨rfl, rfl⟩
    have HE := Lib.hid (show fetchP (U.map Un.pl) i x keep = (U.map Un.pl, [], false) by unfold fetchP; rw [HG.out])
    go_wp2_with fail
    go_ret2
    exact ⟨.slice none 0 0, by rw [HE.out]; rfl, by rw [HE.out]; exact Own.nil _ _ _, by simp [Value.ownBlock], by rw [HE.out]; exact H.out.no K1.out⟩
  | some u =>
    obtain ⟨k, rfl, hu⟩ := getU_some hg
    have HG := Lib.hid (show getP (U.map Un.pl) (k : Int) = some u.pl by rw [getP_pl, hg]; rfl)
    have H := Lib.hid h; have HU := Lib.hid hu
    have HM := Lib.hid (fun wx (hk : Kp No w wx) => (h.no hk).un k u hu)
    rw [hg] at UN
    unfold ptrV at UN
    simp only at UN
    clear h hg hu hx
    go_enter Tryz.func19, Tryz.ntmps19
    go_wp2_with fail
    refine UN.out.mono ?_
    rintro e w1 ⟨rfl, k1⟩
    have K1 := Lib.hid k1
    clear k1
    have M1 := Lib.hid (HM.out w1 K1.out)
    have CO := Lib.hid (come_any M1.out.fr M1.out.lf.2 (by have := M1.out.lf.1; omega) x WFX.out keep)
    have hf0 := fld2 (.pointer (some ⟨u.pr, 0, none⟩)) (.pointer (some ⟨u.pt, 0, none⟩)) (.pointer (some ⟨u.pf, 0, none⟩))
    go_wp2_with fail
    refine CO.out.mono ?_
    rintro e w2 ⟨v2, rfl, o2, g2, s2⟩
    obtain ⟨A2, c2, hv2⟩ := o2.rd.shape
    obtain ⟨n2, hn2⟩ : ∃ z, z = (atB u.F x).length := ⟨_, rfl⟩
    rw [← hn2] at hv2
    subst hv2
    obtain ⟨V', net, hvb⟩ := s2.net
    have z1 := K1.out.size
    obtain ⟨u', hu', e1, e2, e3, e4, e5⟩ := M1.out.setF (Nat.le_trans H.out.kp.size z1) s2.kp net (fun g hg => .inl (hvb g hg)) (keep_len M1.out.lf)
    have HF := Lib.hid ((H.out.no K1.out).updP HU.out s2.kp (fun k hk => UnB.f hk) hu' e4 e5 (x := { u.pl with F := (if keep then u.F else delB u.F x).map (·.b) }) (by unfold Un.pl; rw [e1, e2, e3]))
    obtain ⟨hb, hhb⟩ : ∃ z, hasB u.F.length x = z := ⟨_, rfl⟩
    rw [hhb]
    have O2 := Lib.hid o2; have G2 := Lib.hid g2
    have HE := Lib.hid (show (fetchP (U.map Un.pl) (k : Int) x keep).2.2 = hb ∧ (fetchP (U.map Un.pl) (k : Int) x keep).2.1 = atB u.F x ∧ (fetchP (U.map Un.pl) (k : Int) x keep).1 = (U.map Un.pl).set k { u.pl with F := (if keep then u.F else delB u.F x).map (·.b) } by
      unfold fetchP; rw [HG.out]
      simp only
      have el : u.pl.F.length = u.F.length := by simp [Un.pl]
      rw [el, hhb]
      cases hb with
      | true =>
        rw [if_pos rfl]
        refine ⟨rfl, (atB_pl _ _).symm, ?_⟩
        simp only [Int.toNat_natCast]
        congr 2
        cases keep
        · exact (delB_pl _ _).symm
        · rfl
      | false =>
        rw [if_neg (by simp)]
        obtain ⟨q1, q2⟩ := hasB_no (l := u.F) hhb keep
        refine ⟨rfl, q2.symm, ?_⟩
        rw [q1]
        have e : (U.map Un.pl)[k]? = some u.pl := by rw [List.getElem?_map, HU.out]; rfl
        exact (set_self e).symm)
    clear o2 g2 s2 net hvb hu' e1 e2 e3 e4 e5 hhb hn2
    go_wp2_with fail
    go_ret2
    exact ⟨.slice A2 n2 c2, by rw [HE.out.1]; rfl, by rw [HE.out.2.1]; exact O2.out, fun g hg => Nat.le_trans z1 (G2.out g hg), by rw [HE.out.2.2]; exact HF.out⟩
theorem wlose_nil (w : World) (i : Int) (back : Bool) (x : Int) : Calls Tryz.prog 25 #[.pointer none, .int .i64 i, .bool back, .int .i64 x] w fun e w' => e = .returned (.bool false) ∧ Kp No w w' := by
  have UN := Lib.hid (unit_nil w i)
  unfold ptrV at UN
  simp only at UN
  go_enter Tryz.func25, Tryz.ntmps25
  go_wp2_with fail
  refine UN.out.mono ?_
  rintro e w1 ⟨rfl, k1⟩
  have K1 := Lib.hid k1
  clear k1
  go_upto_region 2 with fail
  obtain ⟨w2, hw2⟩ : ∃ y : World, y = w1.alloc (.cells #[.pointer none, .pointer none, .pointer none] 89) := ⟨_, rfl⟩
  rw [← hw2]
  have BX := Lib.hid (show w2.heap[w1.heap.size]? = some (.cells #[.pointer none, .pointer none, .pointer none] 89 (0, 0)) by rw [hw2]; exact blk_new w1 _)
  have K2 := Lib.hid (show Kp No w w2 by rw [hw2]; exact K1.out.alloc _)
  have LB := Lib.hid (fun wx (hk : Kp No w2 wx) => show wx.cell? ⟨w1.heap.size, 0, none⟩ = some (.pointer none) ∧ wx.cell? ⟨w1.heap.size, 1, none⟩ = some (.pointer none) ∧ wx.cell? ⟨w1.heap.size, 2, none⟩ = some (.pointer none) from ⟨blk_cell (hk.blk BX.out (no_no _)) 0, blk_cell (hk.blk BX.out (no_no _)) 1, blk_cell (hk.blk BX.out (no_no _)) 2⟩)
  clear hw2
  obtain ⟨q0, q1, q2⟩ := LB.out w2 (Kp.refl _ _)
  cases back
  all_goals
    go_wp2_with fail
    refine (lose_nil w2 x).mono ?_
    rintro e w3 ⟨rfl, rfl⟩
    go_wp2_with fail
    go_ret
    exact ⟨rfl, K2.out⟩
set_option maxRecDepth 100000 in
theorem wlose_any {G : Nat → Prop} {w0 w : World} {pw : Nat} {W : List PU} {P : List (Int × Int)} (h : WldP G w0 pw W P w) (i : Int) (back : Bool) (x : Int) (hx : (Lit.int .i64 x).wf = true) : Calls Tryz.prog 25 #[.pointer (some ⟨pw, 0, none⟩), .int .i64 i, .bool back, .int .i64 x] w fun e w' => e = .returned (.bool (loseP W i back x).2) ∧ WldP G w0 pw (loseP W i back x).1 P w' := by
  obtain ⟨uv, pv, U, h, rfl⟩ := h
  have UN := Lib.hid (unit_any h i)
  have WFX := Lib.hid hx
  cases hg : getU U i with
  | none =>
    have HG := Lib.hid (show getP (U.map Un.pl) i = none by rw [getP_pl, hg]; rfl)
    have H := Lib.hid h.p
    rw [hg] at UN
    unfold ptrV at UN
    simp only at UN
    clear h hg hx
    go_enter Tryz.func25, Tryz.ntmps25
    go_wp2_with fail
    refine UN.out.mono ?_
    rintro e w1 ⟨rfl, k1⟩
    have K1 := Lib.hid k1
    clear k1
    go_upto_region 2 with fail
    obtain ⟨w2, hw2⟩ : ∃ y : World, y = w1.alloc (.cells #[.pointer none, .pointer none, .pointer none] 89) := ⟨_, rfl⟩
    rw [← hw2]
    have BX := Lib.hid (show w2.heap[w1.heap.size]? = some (.cells #[.pointer none, .pointer none, .pointer none] 89 (0, 0)) by rw [hw2]; exact blk_new w1 _)
    have K2 := Lib.hid (show Kp No w w2 by rw [hw2]; exact K1.out.alloc _)
    have LB := Lib.hid (fun wx (hk : Kp No w2 wx) => show wx.cell? ⟨w1.heap.size, 0, none⟩ = some (.pointer none) ∧ wx.cell? ⟨w1.heap.size, 1, none⟩ = some (.pointer none) ∧ wx.cell? ⟨w1.heap.size, 2, none⟩ = some (.pointer none) from ⟨blk_cell (hk.blk BX.out (no_no _)) 0, blk_cell (hk.blk BX.out (no_no _)) 1, blk_cell (hk.blk BX.out (no_no _)) 2⟩)
    clear hw2
    obtain ⟨q0, q1, q2⟩ := LB.out w2 (Kp.refl _ _)
    have HE := Lib.hid (show loseP (U.map Un.pl) i back x = (U.map Un.pl, false) by unfold loseP; rw [HG.out])
    cases back
    all_goals
      go_wp2_with fail
      refine (lose_nil w2 x).mono ?_
      rintro e w3 ⟨rfl, rfl⟩
      go_wp2_with fail
      go_ret
      exact ⟨by rw [HE.out]; rfl, by rw [HE.out]; exact H.out.no K2.out⟩
  | some u =>
    obtain ⟨k, rfl, hu⟩ := getU_some hg
    have HG := Lib.hid (show getP (U.map Un.pl) (k : Int) = some u.pl by rw [getP_pl, hg]; rfl)
    have H := Lib.hid h; have HU := Lib.hid hu
    have HM := Lib.hid (fun wx (hk : Kp No w wx) => (h.no hk).un k u hu)
    rw [hg] at UN
    unfold ptrV at UN
    simp only at UN
    clear h hg hu hx
    go_enter Tryz.func25, Tryz.ntmps25
    go_wp2_with fail
    refine UN.out.mono ?_
    rintro e w1 ⟨rfl, k1⟩
    have K1 := Lib.hid k1
    clear k1
    go_upto_region 2 with fail
    obtain ⟨w2, hw2⟩ : ∃ y : World, y = w1.alloc (.cells #[.pointer (some ⟨u.pr, 0, none⟩), .pointer (some ⟨u.pt, 0, none⟩), .pointer (some ⟨u.pf, 0, none⟩)] 89) := ⟨_, rfl⟩
    rw [← hw2]
    have BX := Lib.hid (show w2.heap[w1.heap.size]? = some (.cells #[.pointer (some ⟨u.pr, 0, none⟩), .pointer (some ⟨u.pt, 0, none⟩), .pointer (some ⟨u.pf, 0, none⟩)] 89 (0, 0)) by rw [hw2]; exact blk_new w1 _)
    have K2 := Lib.hid (show Kp No w w2 by rw [hw2]; exact K1.out.alloc _)
    have LB := Lib.hid (fun wx (hk : Kp No w2 wx) => show wx.cell? ⟨w1.heap.size, 0, none⟩ = some (.pointer (some ⟨u.pr, 0, none⟩)) ∧ wx.cell? ⟨w1.heap.size, 1, none⟩ = some (.pointer (some ⟨u.pt, 0, none⟩)) ∧ wx.cell? ⟨w1.heap.size, 2, none⟩ = some (.pointer (some ⟨u.pf, 0, none⟩)) from ⟨blk_cell (hk.blk BX.out (no_no _)) 0, blk_cell (hk.blk BX.out (no_no _)) 1, blk_cell (hk.blk BX.out (no_no _)) 2⟩)
    clear hw2
    obtain ⟨q0, q1, q2⟩ := LB.out w2 (Kp.refl _ _)
    have M2 := Lib.hid (HM.out w2 K2.out)
    have z1 := K2.out.size
    cases back with
    | true =>
      have HE := Lib.hid (show loseP (U.map Un.pl) (k : Int) true x = ((U.map Un.pl).set k { u.pl with F := (delB u.F x).map (·.b) }, hasB u.F.length x) by
        unfold loseP; rw [HG.out]
        simp only [if_pos, Int.toNat_natCast, delB_pl]
        simp [Un.pl])
      go_wp2_with fail
      refine (lose_any M2.out.fr M2.out.lf.2 (by have := M2.out.lf.1; omega) x WFX.out).mono ?_
      rintro e w3 ⟨rfl, s3⟩
      obtain ⟨V', net, hvb⟩ := s3.net
      obtain ⟨u', hu', e1, e2, e3, e4, e5⟩ := M2.out.setF (Nat.le_trans H.out.kp.size z1) s3.kp net (fun g hg => .inl (hvb g hg)) (keep_len (keep := false) M2.out.lf)
      have HF := Lib.hid ((H.out.no K2.out).updP HU.out s3.kp (fun k hk => UnB.f hk) hu' e4 e5 (x := { u.pl with F := (delB u.F x).map (·.b) }) (by unfold Un.pl; rw [e1, e2, e3]))
      clear s3 net hvb hu' e1 e2 e3 e4 e5 q0 q1 q2
      go_wp2_with fail
      go_ret
      exact ⟨by rw [HE.out]; rfl, by rw [HE.out]; exact HF.out⟩
    | false =>
      have HE := Lib.hid (show loseP (U.map Un.pl) (k : Int) false x = ((U.map Un.pl).set k { u.pl with T := (delB u.T x).map (·.b) }, hasB u.T.length x) by
        unfold loseP; rw [HG.out]
        simp only [Int.toNat_natCast, delB_pl]
        simp [Un.pl])
      go_wp2_with fail
      refine (lose_any M2.out.to_ M2.out.lt.2 (by have := M2.out.lt.1; omega) x WFX.out).mono ?_
      rintro e w3 ⟨rfl, s3⟩
      obtain ⟨V', net, hvb⟩ := s3.net
      obtain ⟨u', hu', e1, e2, e3, e4, e5⟩ := M2.out.setT (Nat.le_trans H.out.kp.size z1) s3.kp net (fun g hg => .inl (hvb g hg)) (keep_len (keep := false) M2.out.lt)
      have HF := Lib.hid ((H.out.no K2.out).updP HU.out s3.kp (fun k hk => UnB.t hk) hu' e4 e5 (x := { u.pl with T := (delB u.T x).map (·.b) }) (by unfold Un.pl; rw [e1, e2, e3]))
      clear s3 net hvb hu' e1 e2 e3 e4 e5 q0 q1 q2
      go_wp2_with fail
      go_ret
      exact ⟨by rw [HE.out]; rfl, by rw [HE.out]; exact HF.out⟩
theorem wtell_nil (w : World) (i : Int) : Calls Tryz.prog 24 #[.pointer none, .int .i64 i] w fun e w' => e = .returned (.bool false) ∧ Kp No w w' := by
  have UN := Lib.hid (unit_nil w i)
  unfold ptrV at UN
  simp only at UN
  go_enter Tryz.func24, Tryz.ntmps24
  go_wp2_with fail
  refine UN.out.mono ?_
  rintro e w1 ⟨rfl, k1⟩
  have K1 := Lib.hid k1
  clear k1
  go_upto_region 2 with fail
  obtain ⟨w2, hw2⟩ : ∃ y : World, y = w1.alloc (.cells #[.pointer none, .pointer none, .pointer none] 89) := ⟨_, rfl⟩
  rw [← hw2]
  have BX := Lib.hid (show w2.heap[w1.heap.size]? = some (.cells #[.pointer none, .pointer none, .pointer none] 89 (0, 0)) by rw [hw2]; exact blk_new w1 _)
  have K2 := Lib.hid (show Kp No w w2 by rw [hw2]; exact K1.out.alloc _)
  have LB := Lib.hid (fun wx (hk : Kp No w2 wx) => show wx.cell? ⟨w1.heap.size, 0, none⟩ = some (.pointer none) ∧ wx.cell? ⟨w1.heap.size, 1, none⟩ = some (.pointer none) ∧ wx.cell? ⟨w1.heap.size, 2, none⟩ = some (.pointer none) from ⟨blk_cell (hk.blk BX.out (no_no _)) 0, blk_cell (hk.blk BX.out (no_no _)) 1, blk_cell (hk.blk BX.out (no_no _)) 2⟩)
  clear hw2
  obtain ⟨q0, q1, q2⟩ := LB.out w2 (Kp.refl _ _)
  go_wp2_with fail
  refine (rpkt_nil w2).mono ?_
  rintro e w3 ⟨rfl, rfl⟩
  go_wp2_with fail
  go_ret
  exact ⟨rfl, K2.out⟩
theorem pktL_len (R : Rob) (ok : R.ok) : (pktL R.told R.on []).length ≤ 1000000 := by
  unfold pktL
  split
  · rename_i h
    exact Nat.le_trans (layL_len _ _ _ (by have := ok.on h; omega)) (by decide)
  · simp
theorem pktL_lt (n : Nat) (b : Bool) : ∀ x ∈ pktL n b [], x < 256 := by
  unfold pktL
  split
  · exact layL_lt _ _ _
  · simp
set_option maxRecDepth 100000 in
theorem wtell_any {G : Nat → Prop} {w0 w : World} {pw : Nat} {W : List PU} {P : List (Int × Int)} (h : WldP G w0 pw W P w) (i : Int) : Calls Tryz.prog 24 #[.pointer (some ⟨pw, 0, none⟩), .int .i64 i] w fun e w' => e = .returned (.bool (tellP W i).2) ∧ WldP G w0 pw (tellP W i).1 P w' := by
  obtain ⟨uv, pv, U, h, rfl⟩ := h
  have UN := Lib.hid (unit_any h i)
  cases hg : getU U i with
  | none =>
    have HG := Lib.hid (show getP (U.map Un.pl) i = none by rw [getP_pl, hg]; rfl)
    have H := Lib.hid h.p
    rw [hg] at UN
    unfold ptrV at UN
    simp only at UN
    clear h hg
    go_enter Tryz.func24, Tryz.ntmps24
    go_wp2_with fail
    refine UN.out.mono ?_
    rintro e w1 ⟨rfl, k1⟩
    have K1 := Lib.hid k1
    clear k1
    go_upto_region 2 with fail
    obtain ⟨w2, hw2⟩ : ∃ y : World, y = w1.alloc (.cells #[.pointer none, .pointer none, .pointer none] 89) := ⟨_, rfl⟩
    rw [← hw2]
    have BX := Lib.hid (show w2.heap[w1.heap.size]? = some (.cells #[.pointer none, .pointer none, .pointer none] 89 (0, 0)) by rw [hw2]; exact blk_new w1 _)
    have K2 := Lib.hid (show Kp No w w2 by rw [hw2]; exact K1.out.alloc _)
    have LB := Lib.hid (fun wx (hk : Kp No w2 wx) => show wx.cell? ⟨w1.heap.size, 0, none⟩ = some (.pointer none) ∧ wx.cell? ⟨w1.heap.size, 1, none⟩ = some (.pointer none) ∧ wx.cell? ⟨w1.heap.size, 2, none⟩ = some (.pointer none) from ⟨blk_cell (hk.blk BX.out (no_no _)) 0, blk_cell (hk.blk BX.out (no_no _)) 1, blk_cell (hk.blk BX.out (no_no _)) 2⟩)
    clear hw2
    obtain ⟨q0, q1, q2⟩ := LB.out w2 (Kp.refl _ _)
    have HE := Lib.hid (show tellP (U.map Un.pl) i = (U.map Un.pl, false) by unfold tellP; rw [HG.out])
    go_wp2_with fail
    refine (rpkt_nil w2).mono ?_
    rintro e w3 ⟨rfl, rfl⟩
    go_wp2_with fail
    go_ret
    exact ⟨by rw [HE.out]; rfl, by rw [HE.out]; exact H.out.no K2.out⟩
  | some u =>
    obtain ⟨k, rfl, hu⟩ := getU_some hg
    have HG := Lib.hid (show getP (U.map Un.pl) (k : Int) = some u.pl by rw [getP_pl, hg]; rfl)
    have H := Lib.hid h; have HU := Lib.hid hu
    have HM := Lib.hid (fun wx (hk : Kp No w wx) => (h.no hk).un k u hu)
    rw [hg] at UN
    unfold ptrV at UN
    simp only at UN
    clear h hg hu
    go_enter Tryz.func24, Tryz.ntmps24
    go_wp2_with fail
    refine UN.out.mono ?_
    rintro e w1 ⟨rfl, k1⟩
    have K1 := Lib.hid k1
    clear k1
    go_upto_region 2 with fail
    obtain ⟨w2, hw2⟩ : ∃ y : World, y = w1.alloc (.cells #[.pointer (some ⟨u.pr, 0, none⟩), .pointer (some ⟨u.pt, 0, none⟩), .pointer (some ⟨u.pf, 0, none⟩)] 89) := ⟨_, rfl⟩
    rw [← hw2]
    have BX := Lib.hid (show w2.heap[w1.heap.size]? = some (.cells #[.pointer (some ⟨u.pr, 0, none⟩), .pointer (some ⟨u.pt, 0, none⟩), .pointer (some ⟨u.pf, 0, none⟩)] 89 (0, 0)) by rw [hw2]; exact blk_new w1 _)
    have K2 := Lib.hid (show Kp No w w2 by rw [hw2]; exact K1.out.alloc _)
    have LB := Lib.hid (fun wx (hk : Kp No w2 wx) => show wx.cell? ⟨w1.heap.size, 0, none⟩ = some (.pointer (some ⟨u.pr, 0, none⟩)) ∧ wx.cell? ⟨w1.heap.size, 1, none⟩ = some (.pointer (some ⟨u.pt, 0, none⟩)) ∧ wx.cell? ⟨w1.heap.size, 2, none⟩ = some (.pointer (some ⟨u.pf, 0, none⟩)) from ⟨blk_cell (hk.blk BX.out (no_no _)) 0, blk_cell (hk.blk BX.out (no_no _)) 1, blk_cell (hk.blk BX.out (no_no _)) 2⟩)
    clear hw2
    obtain ⟨q0, q1, q2⟩ := LB.out w2 (Kp.refl _ _)
    have M2 := Lib.hid (HM.out w2 K2.out)
    obtain ⟨PK, hPK⟩ : ∃ z, z = pktL u.R.told u.R.on [] := ⟨_, rfl⟩
    have PB := Lib.hid (show PK.length ≤ 1000000 ∧ ∀ x ∈ PK, x < 256 by rw [hPK]; exact ⟨pktL_len _ M2.out.ok, pktL_lt _ _⟩)
    obtain ⟨on, hon⟩ : ∃ z, z = u.R.on := ⟨_, rfl⟩
    have RP := Lib.hid (rpkt_any M2.out.rob)
    unfold PacketR at RP
    rw [← hPK, ← hon] at RP
    have HPK := Lib.hid hPK; have HON := Lib.hid hon
    clear hPK hon
    go_wp2_with fail
    refine RP.out.mono ?_
    rintro e w3 ⟨v3, rfl, n3⟩
    obtain ⟨A3, c3, rfl⟩ := n3.own.rd.shape
    obtain ⟨l3, hl3⟩ : ∃ z, z = PK.length := ⟨_, rfl⟩
    have N3 := Lib.hid n3
    rw [← hl3] at N3 ⊢
    have K3 := Lib.hid (K2.out.no n3.kp)
    have L3 := Lib.hid (LB.out w3 n3.kp)
    clear n3 hl3 q0 q1 q2
    cases on with
    | false =>
      have HE := Lib.hid (show tellP (U.map Un.pl) (k : Int) = (U.map Un.pl, false) by unfold tellP; rw [HG.out]; simp only; rw [if_neg (by rw [show u.pl.R.on = u.R.on from rfl, ← HON.out]; decide)])
      go_wp2_with fail
      go_ret
      exact ⟨by rw [HE.out]; rfl, by rw [HE.out]; exact (H.out.no K3.out).p⟩
    | true =>
      obtain ⟨q0, q1, q2⟩ := L3.out
      have M3 := Lib.hid (HM.out w3 K3.out)
      have z1 := K3.out.size
      go_wp2_with fail
      refine (send_any M3.out.fr N3.out.own.rd PB.out.1 PB.out.2).mono ?_
      rintro e w4 (⟨hlt, rfl, V', x, hxb, net, hkp, hvb⟩ | ⟨hge, rfl, rfl⟩)
      · have HE := Lib.hid (show tellP (U.map Un.pl) (k : Int) = ((U.map Un.pl).set k { u.pl with F := u.pl.F ++ [pktL u.R.told u.R.on []] }, true) by
          unfold tellP; rw [HG.out]
          simp only
          rw [if_pos (show u.pl.R.on = true from HON.out.symm), if_neg (by simp [Un.pl]; omega)]
          simp [Un.pl])
        obtain ⟨u', hu', e1, e2, e3, e4, e5⟩ := M3.out.setF (Nat.le_trans H.out.kp.size z1) hkp net hvb ⟨by simp; omega, fun y hy => by rcases List.mem_append.1 hy with hy | hy; exact M3.out.lf.2 y hy; rw [List.mem_singleton.1 hy, hxb]; exact PB.out.1⟩
        have HF := Lib.hid ((H.out.no K3.out).updP HU.out hkp (fun k hk => UnB.f hk) hu' e4 e5 (x := { u.pl with F := u.pl.F ++ [pktL u.R.told u.R.on []] }) (by unfold Un.pl; rw [e1, e2, e3]; simp [hxb, HPK.out]))
        clear hlt net hkp hvb hu' e1 e2 e3 e4 e5 hxb q0 q1 q2
        go_wp2_with fail
        go_ret
        exact ⟨by rw [HE.out]; rfl, by rw [HE.out]; exact HF.out⟩
      · have HE := Lib.hid (show tellP (U.map Un.pl) (k : Int) = (U.map Un.pl, false) by
          unfold tellP; rw [HG.out]
          simp only
          rw [if_pos (show u.pl.R.on = true from HON.out.symm), if_pos (by simp [Un.pl]; omega)])
        clear hge q0 q1 q2
        go_wp2_with fail
        go_ret
        exact ⟨by rw [HE.out]; rfl, by rw [HE.out]; exact (H.out.no K3.out).p⟩
end Go.Proofs.YtfpikgkbccgchaaGreatDoor

namespace Go.Proofs.YtfpikgkbccgchaaGreatDoor
set_option linter.unusedVariables false
set_option linter.unusedSimpArgs false
open Go.RowKit

theorem hearB_len (R : Rob) (F : List Nat) : (hearB R F).length ≤ 1000000 := by
  unfold hearB
  split
  · exact Nat.le_trans (layL_len _ _ _ (by have := tkN_lt F; omega)) (by decide)
  · simp
theorem hearB_lt (R : Rob) (F : List Nat) : ∀ x ∈ hearB R F, x < 256 := by
  unfold hearB
  split
  · exact layL_lt _ _ _
  · simp
theorem atB_ok {w : World} {l : List SlH} (h : ∀ x ∈ l, x.own w) (hl : ∀ x ∈ l, x.b.length ≤ 1000000) (x : Int) : (atB l x).length ≤ 1000000 ∧ ∀ y ∈ atB l x, y < 256 := by
  unfold atB
  split
  · cases hx : l[x.toNat]? with
    | none => simp
    | some y =>
      have hm := List.mem_of_getElem? hx
      simp only [Option.map_some, Option.getD_some]
      exact ⟨hl y hm, (h y hm).2⟩
  · simp
theorem wdeliver_nil (w : World) (i x : Int) (keep : Bool) : Calls Tryz.prog 22 #[.pointer none, .int .i64 i, .int .i64 x, .bool keep] w fun e w' => e = .returned (.bool false) ∧ Kp No w w' := by
  have UN := Lib.hid (unit_nil w i)
  unfold ptrV at UN
  simp only at UN
  go_enter Tryz.func22, Tryz.ntmps22
  go_wp2_with fail
  refine UN.out.mono ?_
  rintro e w1 ⟨rfl, k1⟩
  have K1 := Lib.hid k1
  clear k1
  go_upto_region 2 with fail
  obtain ⟨w2, hw2⟩ : ∃ y : World, y = w1.alloc (.cells #[.pointer none, .pointer none, .pointer none] 89) := ⟨_, rfl⟩
  rw [← hw2]
  have BX := Lib.hid (show w2.heap[w1.heap.size]? = some (.cells #[.pointer none, .pointer none, .pointer none] 89 (0, 0)) by rw [hw2]; exact blk_new w1 _)
  have K2 := Lib.hid (show Kp No w w2 by rw [hw2]; exact K1.out.alloc _)
  have LB := Lib.hid (fun wx (hk : Kp No w2 wx) => show wx.cell? ⟨w1.heap.size, 0, none⟩ = some (.pointer none) ∧ wx.cell? ⟨w1.heap.size, 1, none⟩ = some (.pointer none) ∧ wx.cell? ⟨w1.heap.size, 2, none⟩ = some (.pointer none) from ⟨blk_cell (hk.blk BX.out (no_no _)) 0, blk_cell (hk.blk BX.out (no_no _)) 1, blk_cell (hk.blk BX.out (no_no _)) 2⟩)
  clear hw2
  obtain ⟨q0, q1, q2⟩ := LB.out w2 (Kp.refl _ _)
  go_wp2_with fail
  refine (come_nil w2 x keep).mono ?_
  rintro e w3 ⟨rfl, rfl⟩
  go_wp2_with fail
  go_ret
  exact ⟨rfl, K2.out⟩
set_option maxHeartbeats 2000000 in
set_option maxRecDepth 100000 in
theorem wdeliver_any {G : Nat → Prop} {w0 w : World} {pw : Nat} {W : List PU} {P : List (Int × Int)} (h : WldP G w0 pw W P w) (i x : Int) (hx : (Lit.int .i64 x).wf = true) (keep : Bool) : Calls Tryz.prog 22 #[.pointer (some ⟨pw, 0, none⟩), .int .i64 i, .int .i64 x, .bool keep] w fun e w' => e = .returned (.bool (deliverP W i x keep).2) ∧ WldP G w0 pw (deliverP W i x keep).1 P w' := by
  obtain ⟨uv, pv, U, h, rfl⟩ := h
  have UN := Lib.hid (unit_any h i)
  have WFX := Lib.hid hx
  cases hg : getU U i with
  | none =>
    have HG := Lib.hid (show getP (U.map Un.pl) i = none by rw [getP_pl, hg]; rfl)
    have H := Lib.hid h.p
    rw [hg] at UN
    unfold ptrV at UN
    simp only at UN
    clear h hg hx
    go_enter Tryz.func22, Tryz.ntmps22
    go_wp2_with fail
    refine UN.out.mono ?_
    rintro e w1 ⟨rfl, k1⟩
    have K1 := Lib.hid k1
    clear k1
    go_upto_region 2 with fail
    obtain ⟨w2, hw2⟩ : ∃ y : World, y = w1.alloc (.cells #[.pointer none, .pointer none, .pointer none] 89) := ⟨_, rfl⟩
    rw [← hw2]
    have BX := Lib.hid (show w2.heap[w1.heap.size]? = some (.cells #[.pointer none, .pointer none, .pointer none] 89 (0, 0)) by rw [hw2]; exact blk_new w1 _)
    have K2 := Lib.hid (show Kp No w w2 by rw [hw2]; exact K1.out.alloc _)
    have LB := Lib.hid (fun wx (hk : Kp No w2 wx) => show wx.cell? ⟨w1.heap.size, 0, none⟩ = some (.pointer none) ∧ wx.cell? ⟨w1.heap.size, 1, none⟩ = some (.pointer none) ∧ wx.cell? ⟨w1.heap.size, 2, none⟩ = some (.pointer none) from ⟨blk_cell (hk.blk BX.out (no_no _)) 0, blk_cell (hk.blk BX.out (no_no _)) 1, blk_cell (hk.blk BX.out (no_no _)) 2⟩)
    clear hw2
    obtain ⟨q0, q1, q2⟩ := LB.out w2 (Kp.refl _ _)
    go_wp2_with fail
    refine (come_nil w2 x keep).mono ?_
    rintro e w3 ⟨rfl, rfl⟩
    have HE := Lib.hid (show deliverP (U.map Un.pl) i x keep = (U.map Un.pl, false) by unfold deliverP; rw [HG.out])
    go_wp2_with fail
    go_ret
    exact ⟨by rw [HE.out]; rfl, by rw [HE.out]; exact H.out.no K2.out⟩
  | some u =>
    obtain ⟨k, rfl, hu⟩ := getU_some hg
    have HG := Lib.hid (show getP (U.map Un.pl) (k : Int) = some u.pl by rw [getP_pl, hg]; rfl)
    have H := Lib.hid h; have HU := Lib.hid hu
    have HM := Lib.hid (fun wx (hk : Kp No w wx) => (h.no hk).un k u hu)
    rw [hg] at UN
    unfold ptrV at UN
    simp only at UN
    clear h hg hu hx
    go_enter Tryz.func22, Tryz.ntmps22
    go_wp2_with fail
    refine UN.out.mono ?_
    rintro e w1 ⟨rfl, k1⟩
    have K1 := Lib.hid k1
    clear k1
    go_upto_region 2 with fail
    obtain ⟨w2, hw2⟩ : ∃ y : World, y = w1.alloc (.cells #[.pointer (some ⟨u.pr, 0, none⟩), .pointer (some ⟨u.pt, 0, none⟩), .pointer (some ⟨u.pf, 0, none⟩)] 89) := ⟨_, rfl⟩
    rw [← hw2]
    have BX := Lib.hid (show w2.heap[w1.heap.size]? = some (.cells #[.pointer (some ⟨u.pr, 0, none⟩), .pointer (some ⟨u.pt, 0, none⟩), .pointer (some ⟨u.pf, 0, none⟩)] 89 (0, 0)) by rw [hw2]; exact blk_new w1 _)
    have K2 := Lib.hid (show Kp No w w2 by rw [hw2]; exact K1.out.alloc _)
    have LB := Lib.hid (fun wx (hk : Kp No w2 wx) => show wx.cell? ⟨w1.heap.size, 0, none⟩ = some (.pointer (some ⟨u.pr, 0, none⟩)) ∧ wx.cell? ⟨w1.heap.size, 1, none⟩ = some (.pointer (some ⟨u.pt, 0, none⟩)) ∧ wx.cell? ⟨w1.heap.size, 2, none⟩ = some (.pointer (some ⟨u.pf, 0, none⟩)) from ⟨blk_cell (hk.blk BX.out (no_no _)) 0, blk_cell (hk.blk BX.out (no_no _)) 1, blk_cell (hk.blk BX.out (no_no _)) 2⟩)
    clear hw2
    obtain ⟨q0, q1, q2⟩ := LB.out w2 (Kp.refl _ _)
    have M2 := Lib.hid (HM.out w2 K2.out)
    have H2 := Lib.hid (H.out.no K2.out)
    have CO := Lib.hid (come_any M2.out.to_ M2.out.lt.2 (by have := M2.out.lt.1; omega) x WFX.out keep)
    obtain ⟨B, hB⟩ : ∃ z, z = atB u.T x := ⟨_, rfl⟩
    have HB := Lib.hid (show B.length ≤ 1000000 ∧ ∀ y ∈ B, y < 256 by rw [hB]; exact atB_ok M2.out.to_.el M2.out.lt.2 x)
    have HBE := Lib.hid hB
    obtain ⟨bb, hbb⟩ : ∃ z, z = hasB u.T.length x := ⟨_, rfl⟩
    unfold ComeR at CO
    rw [← hB, ← hbb] at CO
    have HBB := Lib.hid hbb
    clear hB hbb
    go_wp2_with fail
    refine CO.out.mono ?_
    rintro e w3 ⟨v3, rfl, o3, g3, s3⟩
    obtain ⟨A3, c3, hv3⟩ := o3.rd.shape
    obtain ⟨n3, hn3⟩ : ∃ z, z = B.length := ⟨_, rfl⟩
    rw [← hn3] at hv3
    subst hv3
    obtain ⟨V', net, hvb⟩ := s3.net
    obtain ⟨u1, hu1, e1, e2, e3, e4, e5⟩ := M2.out.setT H2.out.kp.size s3.kp net (fun g hg => .inl (hvb g hg)) (keep_len M2.out.lt)
    have H3 := Lib.hid (H2.out.upd HU.out s3.kp (fun k hk => UnB.t hk) hu1 e4 e5)
    have HU1 := Lib.hid (show (U.set k u1)[k]? = some u1 by rw [List.getElem?_set, if_pos rfl, if_pos (List.getElem?_eq_some_iff.1 HU.out).1])
    have E1 := Lib.hid (And.intro e1 (And.intro e2 e3))
    have M3 := Lib.hid hu1
    have PTR := Lib.hid (show u1.pr = u.pr ∧ u1.pf = u.pf by unfold Un.ptr at e4; simp only [Prod.mk.injEq] at e4; exact ⟨e4.1, e4.2.2⟩)
    have ty3 := (Ty.one M2.out.to_.blk).or (Ty.own M2.out.to_.own)
    have BX3 := Lib.hid (s3.kp.blk BX.out (ty3.not BX.out (by decide)))
    have O3 := Lib.hid o3
    clear o3 g3 s3 net hvb hu1 e1 e2 e3 e4 e5 ty3 hn3 q0 q1 q2
    cases bb with
    | false =>
      have HE := Lib.hid (show deliverP (U.map Un.pl) (k : Int) x keep = (U.map Un.pl, false) by
        unfold deliverP; rw [HG.out]
        simp only
        rw [if_neg (by rw [show u.pl.T.length = u.T.length by simp [Un.pl], ← HBB.out]; decide)])
      have HF := Lib.hid (show WldP G w0 pw (U.map Un.pl) P w3 from ⟨uv, pv, U.set k u1, H3.out, by
        rw [List.map_set]
        have : u1.pl = u.pl := by unfold Un.pl; rw [E1.out.1, E1.out.2.1, E1.out.2.2, (hasB_no HBB.out.symm keep).1]
        rw [this]
        exact set_self (by rw [List.getElem?_map, HU.out]; rfl)⟩)
      go_wp2_with fail
      go_ret
      exact ⟨by rw [HE.out]; rfl, by rw [HE.out]; exact HF.out⟩
    | true =>
      have HE := Lib.hid (show deliverP (U.map Un.pl) (k : Int) x keep = ((U.map Un.pl).set k (heardU u1.pl B), true) by
        unfold deliverP; rw [HG.out]
        simp only
        rw [if_pos (by rw [show u.pl.T.length = u.T.length by simp [Un.pl], ← HBB.out]), Int.toNat_natCast]
        have e : (⟨u.pl.R, if keep = true then u.pl.T else delP u.pl.T x, u.pl.F⟩ : PU) = u1.pl := by
          unfold Un.pl
          rw [E1.out.1, E1.out.2.1, E1.out.2.2]
          cases keep
          · simp [delB_pl]
          · simp
        have e2 : atP u.pl.T x = B := by rw [HBE.out, atB_pl]; rfl
        rw [e2]
        have e3 : ({ u.pl with T := if keep = true then u.pl.T else delP u.pl.T x } : PU) = u1.pl := e
        rw [e3])
      have TK := Lib.hid (take_any O3.out.rd HB.out.1 HB.out.2)
      go_wp2_with fail
      refine TK.out.mono ?_
      rintro e w4 ⟨v4, rfl, n4⟩
      obtain ⟨A4, c4, rfl⟩ := n4.own.rd.shape
      obtain ⟨l4, hl4⟩ : ∃ z, z = (tkD B).length := ⟨_, rfl⟩
      rw [← hl4]
      obtain ⟨th, hth⟩ : ∃ z, z = tkH B := ⟨_, rfl⟩
      obtain ⟨tn, htn⟩ : ∃ z, z = tkN B := ⟨_, rfl⟩
      obtain ⟨tE, hte⟩ : ∃ z, z = tkE B := ⟨_, rfl⟩
      rw [← hth, ← htn, ← hte]
      have K4 := Lib.hid n4.kp
      have HTH := Lib.hid (And.intro hth hte)
      clear n4 hl4 hth htn hte
      go_upto_region 6 with fail
      obtain ⟨w5, hw5⟩ : ∃ y : World, y = w4.alloc (.cells #[.bool th, .int .u64 (tn : Int), .slice A4 l4 c4] 118) := ⟨_, rfl⟩
      rw [← hw5]
      have K5 := Lib.hid (show Kp No w3 w5 by rw [hw5]; exact K4.out.alloc _)
      have PX := Lib.hid (show w5.heap[w4.heap.size]? = some (.cells #[.bool th, .int .u64 (tn : Int), .slice A4 l4 c4] 118 (0, 0)) by rw [hw5]; exact blk_new w4 _)
      have hp0 : w5.cell? ⟨w4.heap.size, 0, none⟩ = some (.bool th) := blk_cell PX.out 0
      have BX5 := Lib.hid (K5.out.blk BX3.out (no_no _))
      have q0 : w5.cell? ⟨w1.heap.size, 0, none⟩ = some (.pointer (some ⟨u1.pr, 0, none⟩)) := by rw [PTR.out.1]; exact blk_cell BX5.out 0
      have M5 := Lib.hid (M3.out.no K5.out)
      have H5 := Lib.hid (H3.out.no K5.out)
      have O5 := Lib.hid (O3.out.rd.kpNo K5.out)
      clear hw5
      obtain ⟨te, hteb⟩ : ∃ z, (tE == 0) = z := ⟨_, rfl⟩
      have HTE := Lib.hid (show (tkE B = 0 ∧ tkH B = true) ↔ (te = true ∧ th = true) by rw [← HTH.out.2, ← HTH.out.1, ← hteb]; simp)
      have hcs : (te = true ∧ th = true) ∨ (te = true ∧ th = false) ∨ te = false := by cases te <;> cases th <;> simp
      by_cases hyes : te = true ∧ th = true
      · obtain ⟨rfl, rfl⟩ := hyes
        have HHU := Lib.hid (show heardU u1.pl B = { u1.pl with R := heardS u1.R B } by unfold heardU; rw [if_pos (HTE.out.2 ⟨rfl, rfl⟩)]; rfl)
        clear hcs
        go_wp2_with fail
        refine (rheard_any M5.out.rob O5.out HB.out.1 HB.out.2).mono ?_
        rintro e w6 ⟨rfl, r6⟩
        obtain ⟨u2, hu2, e1, e2, e3, e4, e5⟩ := M5.out.robTo r6 (heardS_ok M5.out.ok B)
        have HF := Lib.hid (show WldP G w0 pw ((U.map Un.pl).set k (heardU u1.pl B)) P w6 from by
          have hh := H5.out.updP HU1.out r6.kp (fun k hk => UnB.r hk) hu2 e4 (fun k hk => .inl (e5 k hk)) (x := heardU u1.pl B) (by rw [HHU.out]; unfold Un.pl; rw [e1, e2, e3])
          rwa [List.map_set, List.set_set] at hh)
        clear r6 hu2 e1 e2 e3 e4 e5 q0 hp0
        go_wp2_with fail
        go_ret
        exact ⟨by rw [HE.out]; rfl, by rw [HE.out]; exact HF.out⟩
      · have HHU := Lib.hid (show heardU u1.pl B = { u1.pl with R := hearS u1.R B, F := if hearB u1.R B = [] ∨ 1024 ≤ u1.pl.F.length then u1.pl.F else u1.pl.F ++ [hearB u1.R B] } by unfold heardU; rw [if_neg (fun h => hyes (HTE.out.1 h))]; rfl)
        have hcs : (te = true ∧ th = false) ∨ te = false := hcs.resolve_left hyes
        have RH := Lib.hid (robHear_any M5.out.rob M5.out.ok O5.out HB.out.1 HB.out.2 (tkD_len B) (tkD_byte B))
        clear hyes
        rcases hcs with ⟨rfl, rfl⟩ | rfl
        all_goals
          go_wp2_with fail
          refine RH.out.mono ?_
          rintro e w6 ⟨v6, rfl, o6, g6, r6⟩
          obtain ⟨u2, hu2, e1, e2, e3, e4, e5⟩ := M5.out.robTo r6 (hearS_ok M5.out.ok B)
          have H6 := Lib.hid (show WldS G w0 pw uv pv (U.set k u2) P w6 from by
            have hh := H5.out.upd HU1.out r6.kp (fun k hk => UnB.r hk) hu2 e4 (fun k hk => .inl (e5 k hk))
            rwa [List.set_set] at hh)
          have HU2 := Lib.hid (show (U.set k u2)[k]? = some u2 by rw [List.getElem?_set, if_pos rfl, if_pos (List.getElem?_eq_some_iff.1 HU.out).1])
          have M6 := Lib.hid hu2
          have E2 := Lib.hid (And.intro e1 (And.intro e2 e3))
          have PF := Lib.hid (show u2.pf = u.pf by unfold Un.ptr at e4; simp only [Prod.mk.injEq] at e4; rw [e4.2.2, PTR.out.2])
          have BX6 := Lib.hid (r6.kp.blk BX5.out (M5.out.rob.ty3.not BX5.out (by decide)))
          obtain ⟨BK2, hBK⟩ : ∃ z, z = hearB u1.R B := ⟨_, rfl⟩
          have HBK := Lib.hid (show BK2.length ≤ 1000000 ∧ ∀ y ∈ BK2, y < 256 by rw [hBK]; exact ⟨hearB_len _ _, hearB_lt _ _⟩)
          rw [← hBK] at o6
          obtain ⟨A6, c6, hv6⟩ := o6.rd.shape
          obtain ⟨n6, hn6⟩ : ∃ z, z = BK2.length := ⟨_, rfl⟩
          rw [← hn6] at hv6
          subst hv6
          have O6 := Lib.hid o6.rd
          have HN6 := Lib.hid hn6
          rw [← hBK] at HHU
          clear o6 g6 r6 hu2 e1 e2 e3 e4 e5 q0 hp0 hBK hn6
          by_cases h0 : n6 = 0
          · subst h0
            have hb0 : BK2 = [] := List.length_eq_zero_iff.1 HN6.out.symm
            have HF := Lib.hid (show WldP G w0 pw ((U.map Un.pl).set k (heardU u1.pl B)) P w6 from ⟨uv, pv, U.set k u2, H6.out, by
              rw [List.map_set, HHU.out, if_pos (.inl hb0)]
              congr 1
              unfold Un.pl; rw [E2.out.1, E2.out.2.1, E2.out.2.2]⟩)
            go_wp2_with fail
            go_ret
            exact ⟨by rw [HE.out]; rfl, by rw [HE.out]; exact HF.out⟩
          · have hn0 : (0 : Int) < (n6 : Int) := by omega
            have hn0N : 0 < n6 := by omega
            have hne : BK2 ≠ [] := fun e => h0 (by rw [HN6.out, e]; rfl)
            have q2 : w6.cell? ⟨w1.heap.size, 2, none⟩ = some (.pointer (some ⟨u2.pf, 0, none⟩)) := by rw [PF.out]; exact blk_cell BX6.out 2
            have SE := Lib.hid (send_any M6.out.fr O6.out HBK.out.1 HBK.out.2)
            have HNE := Lib.hid hne
            clear h0 hne
            go_wp2_with fail
            refine SE.out.mono ?_
            rintro e w7 (⟨hlt, rfl, V7, x7, hxb, net7, hkp7, hvb7⟩ | ⟨hge, rfl, rfl⟩)
            · obtain ⟨u3, hu3, e1, e2, e3, e4, e5⟩ := M6.out.setF H6.out.kp.size hkp7 net7 hvb7 ⟨by simp; omega, fun y hy => by rcases List.mem_append.1 hy with hy | hy; exact M6.out.lf.2 y hy; rw [List.mem_singleton.1 hy, hxb]; exact HBK.out.1⟩
              have HF := Lib.hid (show WldP G w0 pw ((U.map Un.pl).set k (heardU u1.pl B)) P w7 from by
                have hh := H6.out.updP HU2.out hkp7 (fun k hk => UnB.f hk) hu3 e4 e5 (x := heardU u1.pl B) (by
                  rw [HHU.out, if_neg (by
                    rintro (h | h)
                    · exact HNE.out h
                    · have : u1.pl.F.length = u2.F.length := by rw [E2.out.2.2]; simp [Un.pl]
                      omega)]
                  unfold Un.pl; rw [e1, e2, e3, E2.out.1, E2.out.2.1, E2.out.2.2]; simp [hxb])
                rwa [List.map_set, List.set_set] at hh)
              clear hlt net7 hkp7 hvb7 hu3 e1 e2 e3 e4 e5 hxb q2
              go_wp2_with fail
              go_ret
              exact ⟨by rw [HE.out]; rfl, by rw [HE.out]; exact HF.out⟩
            · have HF := Lib.hid (show WldP G w0 pw ((U.map Un.pl).set k (heardU u1.pl B)) P w6 from ⟨uv, pv, U.set k u2, H6.out, by
                rw [List.map_set, HHU.out, if_pos (.inr (by
                  have : u1.pl.F.length = u2.F.length := by rw [E2.out.2.2]; simp [Un.pl]
                  omega))]
                congr 1
                unfold Un.pl; rw [E2.out.1, E2.out.2.1, E2.out.2.2]⟩)
              clear hge q2
              go_wp2_with fail
              go_ret
              exact ⟨by rw [HE.out]; rfl, by rw [HE.out]; exact HF.out⟩
end Go.Proofs.YtfpikgkbccgchaaGreatDoor

namespace Go.Proofs.YtfpikgkbccgchaaGreatDoor
set_option linter.unusedVariables false
set_option linter.unusedSimpArgs false
open Go.RowKit

theorem any_snocP {α : Type} (p : α → Bool) (l : List α) (k : Nat) (x : α) (h : l[k]? = some x) : (l.take (k + 1)).any p = ((l.take k).any p || p x) := by
  rw [List.take_add_one, h, List.any_append]; simp
set_option maxRecDepth 100000 in
theorem carr1_any {w : World} {b : Nat} {i : Int} (hb : w.cell? ⟨b, 0, none⟩ = some (.int .i64 i)) (x : Int × Int) : Calls Tryz.prog 137 #[.agg #[.int .i64 x.1, .int .i64 x.2], .pointer (some ⟨b, 0, none⟩)] w fun e w' => e = .returned (.bool (decide (x.2 = i))) ∧ Kp No w w' := by
  obtain ⟨c, p⟩ := x
  have hbl : b < w.heap.size := World.block_lt_of_cell? w _ hb
  have hb2 : ∀ o, (w.alloc o).cell? ⟨b, 0, none⟩ = some (.int .i64 i) := fun o => by
    rw [((Kp.refl No w).alloc o).gcell b 0 hbl]; exact hb
  obtain ⟨t, ht⟩ : ∃ t, (p == i) = t := ⟨_, rfl⟩
  have HT := Lib.hid (show decide (p = i) = t by rw [← ht]; by_cases h : p = i <;> simp [h])
  simp only
  rw [HT.out]
  clear hb hbl
  go_enter Tryz.func137, Tryz.ntmps137
  go_wp2
  go_ret
  exact ⟨rfl, (Kp.refl _ _).alloc _⟩
set_option maxRecDepth 100000 in
theorem ifP_any {w : World} {v : Value} {l : List (Int × Int)} (hr : Rd PdK w v l) (b : Nat) (i : Int) (hb : w.cell? ⟨b, 0, none⟩ = some (.int .i64 i)) :
    Calls Tryz.prog 136 #[v, .func (.func 137) #[] #[.pointer (some ⟨b, 0, none⟩)]] w fun e w' => ∃ r : Int, e = .returned (.int .i64 r) ∧ decide (r < 0) = !(l.any fun x => decide (x.2 = i)) ∧ Kp No w w' := by
  have hl := hr.lenI
  obtain ⟨A, c, rfl⟩ := hr.shape
  obtain ⟨n, hn⟩ : ∃ n, n = l.length := ⟨_, rfl⟩
  rw [← hn] at hr hl ⊢
  unfold maxLen at hl
  have hbl : b < w.heap.size := World.block_lt_of_cell? w _ hb
  have HF := Lib.hid (fun (y : Int × Int) wx (hk : Kp No w wx) => carr1_any (w := wx) (b := b) (i := i) (by rw [hk.gcell b 0 hbl]; exact hb) y)
  have HR := Lib.hid hr; have HN := Lib.hid hn
  clear hr hn hb hbl
  go_enter Tryz.func136, Tryz.ntmps136
  go_wp2_with fail
  go_loopg [8] (n + 1) (fun g_ iv wx => ∃ j : Nat, g_ = n + 1 - j ∧ iv = .int .i64 j ∧ j ≤ n ∧ ((l.take j).any fun x => decide (x.2 = i)) = false ∧ Kp No w wx)
  case atStart => exact ⟨0, rfl, rfl, by omega, by simp, Kp.refl _ _⟩
  case round =>
    obtain ⟨j, hg, rfl, hi, hno, kp⟩ := hrel
    have NO := Lib.hid hno; have KP := Lib.hid kp
    clear hno kp
    by_cases hlt : j < n
    · have hltI : (j : Int) < (n : Int) := by omega
      have hwi : IntKind.i64.wrap ((j : Int) + 1) = (j : Int) + 1 := IntWalk.i64_in _ (by omega)
      obtain ⟨y, hy⟩ : ∃ y, l[j]? = some y := ⟨_, List.getElem?_eq_getElem (by rw [← HN.out]; exact hlt)⟩
      rcases HR.out with ⟨_, he⟩ | ⟨g, o, cap', hv, _⟩
      · have := HN.out; rw [he, List.length_nil] at this; omega
      simp only [Value.slice.injEq] at hv
      obtain ⟨rfl, hzz, rfl⟩ := hv
      obtain ⟨y0, y1⟩ := (HR.out.kpNo KP.out).podAt hy
      have CF := Lib.hid (HF.out y wr KP.out)
      have HY := Lib.hid hy
      obtain ⟨t, ht⟩ : ∃ t, decide (y.2 = i) = t := ⟨_, rfl⟩
      rw [ht] at CF
      have HT := Lib.hid ht
      clear hzz hy hlt ht
      go_wp2_with fail
      refine CF.out.mono ?_
      rintro e w1 ⟨rfl, k1⟩
      have K1 := Lib.hid (KP.out.no k1)
      clear k1
      cases t with
      | true =>
        go_wp2_with fail
        go_ret
        refine ⟨_, rfl, ?_, K1.out⟩
        have h1 : (l.any fun x => decide (x.2 = i)) = true := List.any_eq_true.2 ⟨y, List.mem_of_getElem? HY.out, HT.out⟩
        rw [h1]; simp
      | false =>
        have NO2 := Lib.hid (show ((l.take (j + 1)).any fun x => decide (x.2 = i)) = false by rw [any_snocP _ l j y HY.out, NO.out, HT.out]; rfl)
        go_wp2_with fail
        go_roundg (n + 1 - (j + 1))
        case measure => omega
        case rel => exact ⟨j + 1, rfl, by go_num, by omega, NO2.out, K1.out⟩
    · obtain rfl : j = n := by omega
      have hd0 : ¬ (j : Int) < (j : Int) := by omega
      have HE := Lib.hid (show (l.any fun x => decide (x.2 = i)) = false by have := NO.out; rwa [HN.out, List.take_length] at this)
      clear hlt
      go_wp2_with fail
      go_ret
      exact ⟨_, rfl, by rw [HE.out]; rfl, KP.out⟩
set_option maxRecDepth 100000 in
theorem carries_any {G : Nat → Prop} {w0 w : World} {pw : Nat} {uv pv : Value} {U : List Un} {P : List (Int × Int)} (h : WldS G w0 pw uv pv U P w) (i : Int) : Calls Tryz.prog 110 #[.pointer (some ⟨pw, 0, none⟩), .int .i64 i] w fun e w' => ∃ r : Int, e = .returned (.int .i64 r) ∧ decide (r < 0) = !(P.any fun x => decide (x.2 = i)) ∧ Kp No w w' := by
  obtain ⟨A, cap, rfl⟩ := h.pd.rd.shape
  obtain ⟨n, hn⟩ : ∃ z, z = P.length := ⟨_, rfl⟩
  have hc : ∀ o, (w.alloc o).cell? ⟨pw, 1, none⟩ = some (.slice A n cap) := fun o => by
    have := (blk_cell (blk_alloc h.blk o) 1).trans rfl
    rw [this, ← hn]; rfl
  obtain ⟨w1, hw1⟩ : ∃ y : World, y = w.alloc (.cells #[.int .i64 i] 3) := ⟨_, rfl⟩
  have K1 := Lib.hid (show Kp No w w1 by rw [hw1]; exact (Kp.refl _ _).alloc _)
  have IF := Lib.hid (ifP_any (w := w1) (h.pd.rd.kpNo K1.out) w.heap.size i (by rw [hw1]; exact blk_cell (blk_new w _) 0))
  rw [← hn] at IF
  have HW1 := Lib.hid hw1
  have hc1 : w1.cell? ⟨pw, 1, none⟩ = some (.slice A n cap) := by rw [hw1]; exact hc _
  clear h hn hw1
  go_enter Tryz.func110, Tryz.ntmps110
  go_upto_region 1 with fail
  rw [← HW1.out]
  go_wp2_with fail
  refine IF.out.mono ?_
  rintro e w2 ⟨r, rfl, h1, k2⟩
  have H1 := Lib.hid h1; have K2 := Lib.hid (K1.out.no k2)
  clear h1 k2
  go_wp2_with fail
  go_ret
  exact ⟨r, rfl, H1.out, K2.out⟩
theorem eqPd (x y : Int × Int) (b : Bool) (hb : b = decide (x = y)) (w : World) : (binOp .eql 82 (.agg #[.int .i64 x.1, .int .i64 x.2]) (.agg #[.int .i64 y.1, .int .i64 y.2])).run Tryz.prog w = .ok (.bool b) w := by
  subst hb
  obtain ⟨a, c⟩ := x
  obtain ⟨d, e⟩ := y
  have h : decide (((a, c) : Int × Int) = (d, e)) = (decide (a = d) && decide (c = e)) := by
    by_cases h1 : a = d <;> by_cases h2 : c = e <;> simp [h1, h2]
  rw [h]
  by_cases h1 : a = d <;> by_cases h2 : c = e <;> simp [binOp, Op.equal, Op.maxDepth, go_sem, h1, h2]
set_option maxRecDepth 100000 in
theorem idxP_any {w : World} {v : Value} {l : List (Int × Int)} (hr : Rd PdK w v l) (x : Int × Int) : Calls Tryz.prog 138 #[v, .agg #[.int .i64 x.1, .int .i64 x.2]] w fun e w' => ∃ r : Int, e = .returned (.int .i64 r) ∧ decide (0 ≤ r) = (l.any fun y => decide (y = x)) ∧ Kp No w w' := by
  have hl := hr.lenI
  obtain ⟨A, c, rfl⟩ := hr.shape
  obtain ⟨n, hn⟩ : ∃ n, n = l.length := ⟨_, rfl⟩
  rw [← hn] at hr hl ⊢
  unfold maxLen at hl
  obtain ⟨w1, hw1⟩ : ∃ y : World, y = w.alloc (.cells #[.int .i64 x.1, .int .i64 x.2] 82) := ⟨_, rfl⟩
  have K1 := Lib.hid (show Kp No w w1 by rw [hw1]; exact (Kp.refl _ _).alloc _)
  have BX := Lib.hid (show w1.heap[w.heap.size]? = some (.cells #[.int .i64 x.1, .int .i64 x.2] 82 (0, 0)) by rw [hw1]; exact blk_new w _)
  have HW1 := Lib.hid hw1
  have HR := Lib.hid (hr.kpNo K1.out); have HN := Lib.hid hn
  clear hr hn hw1
  go_enter Tryz.func138, Tryz.ntmps138
  go_upto_region 1 with fail
  rw [← HW1.out]
  go_wp2_with fail
  go_loopg [8] (n + 1) (fun g_ iv wx => ∃ j : Nat, g_ = n + 1 - j ∧ iv = .int .i64 j ∧ j ≤ n ∧ ((l.take j).any fun y => decide (y = x)) = false ∧ Kp No w1 wx)
  case atStart => exact ⟨0, rfl, rfl, by omega, by simp, Kp.refl _ _⟩
  case round =>
    obtain ⟨j, hg, rfl, hi, hno, kp⟩ := hrel
    have NO := Lib.hid hno; have KP := Lib.hid kp
    clear hno kp
    by_cases hlt : j < n
    · have hltI : (j : Int) < (n : Int) := by omega
      have hwi : IntKind.i64.wrap ((j : Int) + 1) = (j : Int) + 1 := IntWalk.i64_in _ (by omega)
      obtain ⟨y, hy⟩ : ∃ y, l[j]? = some y := ⟨_, List.getElem?_eq_getElem (by rw [← HN.out]; exact hlt)⟩
      rcases HR.out with ⟨_, he⟩ | ⟨g, o, cap', hv, _⟩
      · have := HN.out; rw [he, List.length_nil] at this; omega
      simp only [Value.slice.injEq] at hv
      obtain ⟨rfl, hzz, rfl⟩ := hv
      obtain ⟨y0, y1⟩ := (HR.out.kpNo KP.out).podAt hy
      have x0 : wr.cell? ⟨w.heap.size, 0, none⟩ = some (.int .i64 x.1) := blk_cell (KP.out.blk BX.out (no_no _)) 0
      have x1 : wr.cell? ⟨w.heap.size, 1, none⟩ = some (.int .i64 x.2) := blk_cell (KP.out.blk BX.out (no_no _)) 1
      have HY := Lib.hid hy
      obtain ⟨t, ht⟩ : ∃ t, decide (y = x) = t := ⟨_, rfl⟩
      have heq := fun w => eqPd x y t (by rw [← ht]; by_cases h : y = x <;> simp [h]; exact fun e => h e.symm) w
      have HT := Lib.hid ht
      clear hzz hy hlt ht
      cases t with
      | true =>
        go_upto_region 4 with fail
        go_quiet (fail)
        go_wp2_with fail
        go_ret
        refine ⟨_, rfl, ?_, K1.out.no (KP.out.drewN _)⟩
        have h1 : (l.any fun y => decide (y = x)) = true := List.any_eq_true.2 ⟨y, List.mem_of_getElem? HY.out, HT.out⟩
        rw [h1]; simp
      | false =>
        have NO2 := Lib.hid (show ((l.take (j + 1)).any fun y => decide (y = x)) = false by rw [any_snocP _ l j y HY.out, NO.out, HT.out]; rfl)
        go_upto_region 4 with fail
        go_quiet (fail)
        go_wp2_with fail
        go_roundg (n + 1 - (j + 1))
        case measure => omega
        case rel => exact ⟨j + 1, rfl, by go_num, by omega, NO2.out, KP.out.drewN _⟩
    · obtain rfl : j = n := by omega
      have hd0 : ¬ (j : Int) < (j : Int) := by omega
      have HE := Lib.hid (show (l.any fun y => decide (y = x)) = false by have := NO.out; rwa [HN.out, List.take_length] at this)
      clear hlt
      go_wp2_with fail
      go_ret
      exact ⟨_, rfl, by rw [HE.out]; rfl, K1.out.no KP.out⟩
set_option maxRecDepth 100000 in
theorem conP_any {w : World} {v : Value} {l : List (Int × Int)} (hr : Rd PdK w v l) (x : Int × Int) (t : Bool) (ht : (l.any fun y => decide (y = x)) = t) : Calls Tryz.prog 111 #[v, .agg #[.int .i64 x.1, .int .i64 x.2]] w fun e w' => e = .returned (.bool t) ∧ Kp No w w' := by
  obtain ⟨w1, hw1⟩ : ∃ y : World, y = w.alloc (.cells #[.int .i64 x.1, .int .i64 x.2] 82) := ⟨_, rfl⟩
  have K1 := Lib.hid (show Kp No w w1 by rw [hw1]; exact (Kp.refl _ _).alloc _)
  have x0 : w1.cell? ⟨w.heap.size, 0, none⟩ = some (.int .i64 x.1) := by rw [hw1]; exact blk_cell (blk_new w _) 0
  have x1 : w1.cell? ⟨w.heap.size, 1, none⟩ = some (.int .i64 x.2) := by rw [hw1]; exact blk_cell (blk_new w _) 1
  have HW1 := Lib.hid hw1
  have IX := Lib.hid (idxP_any (hr.kpNo K1.out) x)
  have HT := Lib.hid ht
  obtain ⟨A, c, rfl⟩ := hr.shape
  obtain ⟨n, hn⟩ : ∃ n, n = l.length := ⟨_, rfl⟩
  rw [← hn] at IX ⊢
  clear hr hn ht hw1
  go_enter Tryz.func111, Tryz.ntmps111
  go_upto_region 1 with fail
  rw [← HW1.out]
  go_wp2_with fail
  refine IX.out.mono ?_
  rintro e w2 ⟨r, rfl, h1, k2⟩
  have K2 := Lib.hid (K1.out.no k2)
  rw [HT.out] at h1
  clear k2
  cases t
  all_goals
    go_wp2_with fail
    go_ret
    exact ⟨by first | rfl | simp, K2.out⟩
end Go.Proofs.YtfpikgkbccgchaaGreatDoor
