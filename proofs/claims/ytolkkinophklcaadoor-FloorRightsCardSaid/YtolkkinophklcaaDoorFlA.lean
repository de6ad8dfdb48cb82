/- Floors, plain: what is told of a floor; floor.is, Zone, Robots, Dock. -/
import Derived.Test.YtolkkinophklcaaDoorFlR
namespace Go.Proofs.YtolkkinophklcaaDoor
set_option linter.unusedVariables false
set_option linter.unusedSimpArgs false
open Go.RowKit

def docksP (s : ByteArray) (k : Nat) : List Nat := (List.range k).filter fun i => kdS s i == 3
theorem docksP_in {s : ByteArray} {k : Nat} (h : kdS s k = 3) : docksP s (k + 1) = docksP s k ++ [k] := by
  unfold docksP; rw [List.range_succ, List.filter_append]; simp [h]
theorem docksP_out {s : ByteArray} {k : Nat} (h : kdS s k ≠ 3) : docksP s (k + 1) = docksP s k := by
  unfold docksP; rw [List.range_succ, List.filter_append]; simp [h]
theorem DocksL.steps {s : ByteArray} {ds : List Nat} (h : DocksL s ds) : ∀ k, k ≤ s.size → ∃ a, DkI s k a (docksP s k).length := by
  intro k
  induction k with
  | zero => intro _; exact ⟨_, DkI.start s⟩
  | succ k ih =>
    intro hk
    obtain ⟨a, ha⟩ := ih (by omega)
    by_cases h3 : kdS s k = 3
    · rw [docksP_in h3]
      have hd := kd_dock h3
      have hlt : bt s k - 48 < a.length := by rw [ha.len]; omega
      rcases hx : a[bt s k - 48] with _ | x
      · exact ⟨_, by simpa using ha.take (r := bt s k - 48) h3 (by omega) (by rw [List.getElem?_eq_getElem hlt, hx])⟩
      · exact absurd ⟨ds, h⟩ (ha.twice (r := bt s k - 48) (x := x) (by omega) h3 (by omega) (by rw [List.getElem?_eq_getElem hlt, hx]))
    · rw [docksP_out h3]
      exact ⟨a, ha.skip h3⟩
theorem DocksL.count {s : ByteArray} {ds : List Nat} (h : DocksL s ds) : ds.length = (docksP s s.size).length := by
  obtain ⟨a, ha⟩ := h.steps s.size (Nat.le_refl _)
  exact ((ha.shape h).2).symm
def dockAt (s : ByteArray) (r : Nat) : Option Nat := (List.range s.size).find? fun i => kdS s i == 3 && bt s i == 48 + r
theorem DocksL.find {s : ByteArray} {ds : List Nat} (h : DocksL s ds) (r : Nat) : dockAt s r = ds[r]? := by
  unfold dockAt
  cases hf : (List.range s.size).find? fun i => kdS s i == 3 && bt s i == 48 + r with
  | some x =>
    have h1 := List.find?_some hf
    have h2 := List.mem_of_find?_eq_some hf
    simp at h1 h2
    have := h.all x h2 h1.1
    rw [h1.2, Nat.add_sub_cancel_left] at this
    exact this.symm
  | none =>
    cases hd : ds[r]? with
    | none => rfl
    | some i =>
      obtain ⟨h1, h2, h3⟩ := h.at_ r i hd
      rw [List.find?_eq_none] at hf
      have := hf i (by simpa using h1)
      simp [h2, h3] at this

/-! ### What is told of a floor -/
noncomputable def robotsP (f : Flr) : Nat := if rightB f = true then (docksP f.s f.s.size).length else 0
noncomputable def dockP (f : Flr) (n : Int) : Option Nat := if rightB f = true ∧ 0 ≤ n then dockAt f.s n.toNat else none
noncomputable def isB (f : Flr) (c k : Int) : Bool := decide (0 ≤ c) && decide (c < f.s.size) && ((kdS f.s c.toNat : Int) == k) && rightB f
noncomputable def zoneP (f : Flr) (c : Int) : Option Nat := if isB f c 2 = true then some (bt f.s c.toNat - 97) else none
noncomputable def nearP (f : Flr) (c : Int) : List Nat := if isB f c 2 = true ∨ isB f c 3 = true then (besideP f.W.toNat f.H.toNat c.toNat).filter fun x => kdS f.s x != 1 else []
noncomputable def lanesP (f : Flr) : List Nat := if rightB f = true then lanesTo f.s f.s.size else []
def ZVal (o : Option Nat) : Value := .tuple #[.int .i64 ((o.getD 0 : Nat) : Int), .bool o.isSome]

structure BxW (f : Flr) (bf : Nat) (w0 w : World) : Prop where
  box : w.heap[bf]? = some (.cells #[.int .i64 f.W, .int .i64 f.H, .string f.s] 24 (0, 0))
  kp : Kp No w0 w
theorem BxW.no {f : Flr} {bf : Nat} {w0 w w' : World} (h : BxW f bf w0 w) (hk : Kp No w w') : BxW f bf w0 w' := ⟨hk.blk h.box (no_no _), h.kp.no hk⟩
theorem BxW.new (f : Flr) (w : World) : BxW f w.heap.size w (w.alloc (.cells #[.int .i64 f.W, .int .i64 f.H, .string f.s] 24)) := ⟨blk_new w _, (Kp.refl _ _).alloc _⟩
theorem BxW.c0 {f : Flr} {bf : Nat} {w0 w : World} (h : BxW f bf w0 w) : w.cell? ⟨bf, 0, none⟩ = some (.int .i64 f.W) := blk_cell h.box 0
theorem BxW.c1 {f : Flr} {bf : Nat} {w0 w : World} (h : BxW f bf w0 w) : w.cell? ⟨bf, 1, none⟩ = some (.int .i64 f.H) := blk_cell h.box 1
theorem BxW.c2 {f : Flr} {bf : Nat} {w0 w : World} (h : BxW f bf w0 w) : w.cell? ⟨bf, 2, none⟩ = some (.string f.s) := blk_cell h.box 2

theorem right_at (f : Flr) (hsz : f.s.size ≤ 9223372036854775807) (b : Bool) (hb : rightB f = b) (w : World) : Calls Tryd.prog 24 #[f.val] w fun e w' => e = .returned (.bool b) ∧ Kp No w w' := by
  subst hb; exact right_any f hsz w

set_option maxRecDepth 100000 in
theorem is_any (f : Flr) (hsz : f.s.size ≤ 9223372036854775807) (c k : Int) (hc : c ≤ 9223372036854775807) (w : World) :
    Calls Tryd.prog 33 #[f.val, .int .i64 c, .int .i64 k] w fun e w' => e = .returned (.bool (isB f c k)) ∧ Kp No w w' := by
  obtain ⟨R, hR⟩ : ∃ R, R = isB f c k := ⟨_, rfl⟩
  rw [← hR]
  unfold isB at hR
  have HSZ := Lib.hid hsz
  obtain ⟨n, hn⟩ : ∃ n, n = f.s.size := ⟨_, rfl⟩
  have hnI : ((f.s.size : Nat) : Int) = (n : Int) := by omega
  have HN := Lib.hid hn
  rw [← hn] at hsz
  by_cases h0 : 0 ≤ c
  · have h0b : decide (0 ≤ c) = true := by simpa using h0
    obtain ⟨j, rfl⟩ : ∃ j : Nat, c = j := ⟨c.toNat, by omega⟩
    by_cases h1 : j < n
    · have h1I : (j : Int) < (n : Int) := by omega
      have h1s : j < f.s.size := by omega
      have h1sI : (j : Int) < ((f.s.size : Nat) : Int) := by omega
      obtain ⟨K, hK⟩ : ∃ K, K = kindB (bt f.s j) := ⟨_, rfl⟩
      have hbt := bt_at f.s j
      have hkd := fun w => kind_any (bt f.s j) w
      rw [← hK] at hkd
      have HKD := Lib.hid hkd
      have e1 : R = (((K : Int) == k) && rightB f) := by rw [hR, hK]; simp [h0, h1s, kdS]
      obtain ⟨b, hb⟩ : ∃ b, rightB f = b := ⟨_, rfl⟩
      rw [hb] at e1
      have HRT := Lib.hid (right_at f HSZ.out b hb)
      have HE := Lib.hid e1
      unfold Flr.val
      unfold Flr.val at HRT
      clear hR hkd hK e1 hb h1 hn h0
      by_cases h2 : (K : Int) = k
      · have h2b : ((K : Int) == k) = true := by simp [h2]
        rw [h2b, Bool.true_and] at HE
        have hBx := BxW.new f w
        have HBX := Lib.hid hBx
        clear h2 hBx
        go_enter Tryd.func33, Tryd.ntmps33
        go_wp2_with (first | (go_at_call 39; refine (HKD.out _).mono ?_; rintro e wz ⟨rfl, rfl⟩) | (go_at_call 24; refine (HRT.out _).mono ?_; rintro e wz ⟨rfl, kpz⟩))
        go_ret
        exact ⟨by rw [HE.out]; rfl, HBX.out.kp.no kpz⟩
      · have h2b : ((K : Int) == k) = false := by simpa using h2
        rw [h2b, Bool.false_and] at HE
        have HBX := Lib.hid (BxW.new f w)
        clear h2
        go_enter Tryd.func33, Tryd.ntmps33
        go_wp2_with (first | (go_at_call 39; refine (HKD.out _).mono ?_; rintro e wz ⟨rfl, rfl⟩) | (go_at_call 24; refine (HRT.out _).mono ?_; rintro e wz ⟨rfl, kpz⟩))
        go_ret
        exact ⟨by rw [HE.out]; rfl, HBX.out.kp⟩
    · have h1I : ¬ (j : Int) < (n : Int) := by omega
      have HE := Lib.hid (show R = false by rw [hR]; simp; intro _ h; omega)
      have HBX := Lib.hid (BxW.new f w)
      unfold Flr.val
      clear hR h1 hn h0
      go_enter Tryd.func33, Tryd.ntmps33
      go_wp2
      go_ret
      exact ⟨by rw [HE.out]; rfl, HBX.out.kp⟩
  · have h0b : decide (0 ≤ c) = false := by simpa using h0
    have HE := Lib.hid (show R = false by rw [hR]; simp [h0])
    have HBX := Lib.hid (BxW.new f w)
    unfold Flr.val
    clear hR hn
    go_enter Tryd.func33, Tryd.ntmps33
    go_wp2
    go_ret
    exact ⟨by rw [HE.out]; rfl, HBX.out.kp⟩

theorem is_at (f : Flr) (hsz : f.s.size ≤ 9223372036854775807) (c k : Int) (hc : c ≤ 9223372036854775807) (b : Bool) (hb : isB f c k = b) (w : World) : Calls Tryd.prog 33 #[f.val, .int .i64 c, .int .i64 k] w fun e w' => e = .returned (.bool b) ∧ Kp No w w' := by
  subst hb; exact is_any f hsz c k hc w
theorem isB_iff {f : Flr} {c k : Int} : isB f c k = true ↔ 0 ≤ c ∧ c < f.s.size ∧ (kdS f.s c.toNat : Int) = k ∧ RightP f := by
  unfold isB; simp [rightB_iff, and_assoc]

theorem zone_any (f : Flr) (hsz : f.s.size ≤ 9223372036854775807) (c : Int) (hc : c ≤ 9223372036854775807) (w : World) :
    Calls Tryd.prog 16 #[f.val, .int .i64 c] w fun e w' => e = .returned (ZVal (zoneP f c)) ∧ Kp No w w' := by
  obtain ⟨Z, hZ⟩ : ∃ Z, Z = zoneP f c := ⟨_, rfl⟩
  rw [← hZ]
  unfold zoneP at hZ
  have HBX := Lib.hid (BxW.new f w)
  cases hb : isB f c 2 with
  | true =>
    rw [if_pos hb] at hZ
    have HIS := Lib.hid (is_at f hsz c 2 hc true hb)
    obtain ⟨h1, h2, h3, h4⟩ := isB_iff.1 hb
    obtain ⟨j, rfl⟩ : ∃ j : Nat, c = j := ⟨c.toNat, by omega⟩
    have hj : j < f.s.size := by omega
    have hbt := bt_at f.s j
    obtain ⟨B, hB⟩ : ∃ B, B = bt f.s j := ⟨_, rfl⟩
    have hl := kd_lane (c := B) (by rw [hB]; have : kdS f.s j = 2 := by simp at h3; omega
                                    exact this)
    have hsub : IntKind.u8.wrap ((B : Int) - 97) = ((B - 97 : Nat) : Int) := by rw [IntWalk.u8_in _ (by omega)]; omega
    have hcv : IntKind.i64.wrap ((B - 97 : Nat) : Int) = ((B - 97 : Nat) : Int) := IntWalk.i64_in _ (by omega)
    rw [← hB] at hbt
    simp only [Int.toNat_natCast] at hZ
    rw [← hB] at hZ
    subst hZ
    obtain ⟨q, hq⟩ : ∃ q, q = B - 97 := ⟨_, rfl⟩
    rw [← hq] at hsub hcv ⊢
    have hq25 : q ≤ 25 := by omega
    unfold Flr.val
    unfold Flr.val at HIS
    clear hb h1 h3 h4 hq hB hl
    go_enter Tryd.func16, Tryd.ntmps16
    go_wp2_with fail
    refine (HIS.out _).mono ?_
    rintro e w1 ⟨rfl, kp1⟩
    have B1 := Lib.hid (HBX.out.no kp1)
    have hb2 := B1.out.c2
    clear kp1
    go_wp2
    go_ret2
    exact ⟨rfl, B1.out.kp⟩
  | false =>
    rw [if_neg (by simp [hb])] at hZ
    subst hZ
    have HIS := Lib.hid (is_at f hsz c 2 hc false hb)
    unfold Flr.val
    unfold Flr.val at HIS
    clear hb
    go_enter Tryd.func16, Tryd.ntmps16
    go_wp2_with fail
    refine (HIS.out _).mono ?_
    rintro e w1 ⟨rfl, kp1⟩
    have B1 := Lib.hid (HBX.out.no kp1)
    clear kp1
    go_wp2
    go_ret2
    exact ⟨rfl, B1.out.kp⟩

theorem RightP.s256 {f : Flr} (r : RightP f) : f.s.size ≤ 256 := by
  have := r.len
  have h1 := r.w1; have h2 := r.w2; have h3 := r.h1; have h4 := r.h2
  have h5 : f.W * f.H ≤ 16 * 16 := Int.mul_le_mul h2 h4 (by omega) (by omega)
  omega

theorem robots_any (f : Flr) (hsz : f.s.size ≤ 9223372036854775807) (w : World) :
    Calls Tryd.prog 18 #[f.val] w fun e w' => e = .returned (.int .i64 ((robotsP f : Nat) : Int)) ∧ Kp No w w' := by
  obtain ⟨Z, hZ⟩ : ∃ Z, Z = robotsP f := ⟨_, rfl⟩
  rw [← hZ]
  unfold robotsP at hZ
  have HBX := Lib.hid (BxW.new f w)
  cases hb : rightB f with
  | true =>
    rw [if_pos hb] at hZ
    have HRT := Lib.hid (right_at f hsz true hb)
    have HDK := Lib.hid (docks_any f (by have := (rightB_iff.1 hb).s256; omega))
    have HZ := Lib.hid hZ
    unfold Flr.val at HRT HDK ⊢
    have HNO := Lib.hid (rightB_iff.1 hb).docks
    clear hb hZ
    go_enter Tryd.func18, Tryd.ntmps18
    go_wp2_with fail
    refine (HRT.out _).mono ?_
    rintro e w1 ⟨rfl, kp1⟩
    have B1 := Lib.hid (HBX.out.no kp1)
    have hb0 := B1.out.c0; have hb1 := B1.out.c1; have hb2 := B1.out.c2
    clear kp1
    go_wp2_with fail
    refine (HDK.out _).mono ?_
    rintro e w2 hd
    rcases hd with ⟨ds, vd, rfl, hds, nsd⟩ | ⟨rfl, hno, kpd⟩
    · obtain ⟨A, q, rfl⟩ := nsd.own.rd.shape
      obtain ⟨m, hm⟩ : ∃ m, m = ds.length := ⟨_, rfl⟩
      rw [ints_len, ← hm]
      have HM := Lib.hid (show m = Z by rw [hm, HZ.out]; exact hds.count)
      have K2 := Lib.hid (B1.out.kp.no nsd.kp)
      clear nsd hds hm hb0 hb1 hb2
      go_wp2_with fail
      go_ret
      exact ⟨by rw [HM.out]; rfl, K2.out⟩
    · exact absurd HNO.out hno
  | false =>
    rw [if_neg (by simp [hb])] at hZ
    subst hZ
    have HRT := Lib.hid (right_at f hsz false hb)
    unfold Flr.val at HRT ⊢
    clear hb
    go_enter Tryd.func18, Tryd.ntmps18
    go_wp2_with fail
    refine (HRT.out _).mono ?_
    rintro e w1 ⟨rfl, kp1⟩
    have B1 := Lib.hid (HBX.out.no kp1)
    clear kp1
    go_wp2
    go_ret
    exact ⟨rfl, B1.out.kp⟩

theorem dock_any (f : Flr) (hsz : f.s.size ≤ 9223372036854775807) (c : Int) (hc : c ≤ 9223372036854775807) (w : World) :
    Calls Tryd.prog 14 #[f.val, .int .i64 c] w fun e w' => e = .returned (ZVal (dockP f c)) ∧ Kp No w w' := by
  obtain ⟨Z, hZ⟩ : ∃ Z, Z = dockP f c := ⟨_, rfl⟩
  rw [← hZ]
  unfold dockP at hZ
  have HBX := Lib.hid (BxW.new f w)
  cases hb : rightB f with
  | true =>
    have HRT := Lib.hid (right_at f hsz true hb)
    have HDK := Lib.hid (docks_any f (by have := (rightB_iff.1 hb).s256; omega))
    have HZ := Lib.hid (show Z = if 0 ≤ c then dockAt f.s c.toNat else none by rw [hZ]; simp [hb])
    unfold Flr.val at HRT HDK ⊢
    have HNO := Lib.hid (rightB_iff.1 hb).docks
    clear hb hZ
    go_enter Tryd.func14, Tryd.ntmps14
    go_wp2_with fail
    refine (HRT.out _).mono ?_
    rintro e w1 ⟨rfl, kp1⟩
    have B1 := Lib.hid (HBX.out.no kp1)
    have hb0 := B1.out.c0; have hb1 := B1.out.c1; have hb2 := B1.out.c2
    clear kp1
    go_wp2_with fail
    refine (HDK.out _).mono ?_
    rintro e w2 hd
    rcases hd with ⟨ds, vd, rfl, hds, nsd⟩ | ⟨rfl, hno, kpd⟩
    · have HDS := Lib.hid hds
      have K2 := Lib.hid (B1.out.kp.no nsd.kp)
      have OW := Lib.hid nsd.own
      obtain ⟨A, q, rfl⟩ := nsd.own.rd.shape
      obtain ⟨m, hm⟩ : ∃ m, m = ds.length := ⟨_, rfl⟩
      rw [ints_len, ← hm] at OW ⊢
      have HM := Lib.hid hm
      have hm8 : m ≤ 8 := by rw [hm]; exact hds.len
      clear nsd hds hm hb0 hb1 hb2
      by_cases h0 : c < 0
      · have HE := Lib.hid (show Z = none by rw [HZ.out, if_neg (by omega)])
        go_wp2_with fail
        go_ret2
        exact ⟨by rw [HE.out]; rfl, K2.out⟩
      · have h0b : decide (c < 0) = false := by simpa using h0
        obtain ⟨j, rfl⟩ : ∃ j : Nat, c = j := ⟨c.toNat, by omega⟩
        by_cases h1 : j < m
        · have h1I : ¬ (m : Int) ≤ (j : Int) := by omega
          obtain ⟨d, hd⟩ : ∃ d, ds[j]? = some d := ⟨_, List.getElem?_eq_getElem (by rw [← HM.out]; exact h1)⟩
          have HE := Lib.hid (show Z = some d by rw [HZ.out, if_pos (by omega), Int.toNat_natCast, HDS.out.find, hd])
          rcases OW.out.b with ⟨hv, _⟩ | ⟨gB, capB, hv, _, _, _⟩
          · simp only [Value.slice.injEq] at hv; omega
          simp only [Value.slice.injEq] at hv
          obtain ⟨rfl, hzz, rfl⟩ := hv
          clear hzz
          have hcb : w2.cell? ⟨gB, j, none⟩ = some (.int .i64 (d : Int)) := by have := OW.out.rd.intAt (ints_get hd); simpa using this
          have h1J : (j : Int) < (m : Int) := by omega
          clear hd h0
          go_wp2_with fail
          go_ret2
          exact ⟨by rw [HE.out]; rfl, K2.out⟩
        · have h1I : (m : Int) ≤ (j : Int) := by omega
          have h1N : m ≤ j := by omega
          have HE := Lib.hid (show Z = none by rw [HZ.out, if_pos (by omega), Int.toNat_natCast, HDS.out.find, List.getElem?_eq_none (by rw [← HM.out]; omega)])
          clear h0 h1
          go_wp2_with fail
          go_ret2
          exact ⟨by rw [HE.out]; rfl, K2.out⟩
    · exact absurd HNO.out hno
  | false =>
    rw [if_neg (by simp [hb])] at hZ
    subst hZ
    have HRT := Lib.hid (right_at f hsz false hb)
    unfold Flr.val at HRT ⊢
    clear hb
    go_enter Tryd.func14, Tryd.ntmps14
    go_wp2_with fail
    refine (HRT.out _).mono ?_
    rintro e w1 ⟨rfl, kp1⟩
    have B1 := Lib.hid (HBX.out.no kp1)
    clear kp1
    go_wp2
    go_ret2
    exact ⟨rfl, B1.out.kp⟩
end Go.Proofs.YtolkkinophklcaaDoor
