/- world: can; world: Step; Floors, plain: what hangs together, docks, which floors may be. No function of the program; Floors, plain: how docks are found. No function of the program; floor.kind, floor.beside; floor.beside; floor.docks; Floors, plain: a search through the lanes. No function of the program; floor.joined. No condition. -/
import Derived.Test.YtfpikgkbccgchaaGreatDoorM7
import Derived.Test.YtfpikgkbccgchaaGreatDoorM6
import Derived.Test.YtfpikgkbccgchaaGreatDoorM5
import Derived.Test.YtfpikgkbccgchaaGreatDoorM4
import Derived.Test.YtfpikgkbccgchaaGreatDoorM2
import Derived.Deep.LoopGhost

namespace Go.Proofs.YtfpikgkbccgchaaGreatDoor
set_option linter.unusedVariables false
set_option linter.unusedSimpArgs false
open Go.RowKit

set_option maxHeartbeats 2000000 in
set_option maxRecDepth 100000 in
theorem can_any {G : Nat → Prop} {w0 w : World} {pw : Nat} {uv pv : Value} {U : List Un} {P : List (Int × Int)} (h : WldS G w0 pw uv pv U P w) (i : Int) (k : Nat) (c p cell : Int) (hp : k = 2 ∨ k = 3 → 0 ≤ p) : Calls Tryz.prog 64 #[.pointer (some ⟨pw, 0, none⟩), .int .i64 i, .agg #[.int .u8 (k : Int), .int .i64 c, .int .i64 p], .int .i64 cell] w fun e w' => e = .returned (.bool (canP P i k p cell)) ∧ Kp No w w' := by
  obtain ⟨A, cap, rfl⟩ := h.pd.rd.shape
  obtain ⟨n, hn⟩ : ∃ z, z = P.length := ⟨_, rfl⟩
  obtain ⟨w1, hw1⟩ : ∃ y : World, y = w.alloc (.cells #[.int .u8 (k : Int), .int .i64 c, .int .i64 p] 40) := ⟨_, rfl⟩
  have K1 := Lib.hid (show Kp No w w1 by rw [hw1]; exact (Kp.refl _ _).alloc _)
  have BX := Lib.hid (show w1.heap[w.heap.size]? = some (.cells #[.int .u8 (k : Int), .int .i64 c, .int .i64 p] 40 (0, 0)) by rw [hw1]; exact blk_new w _)
  have HW1 := Lib.hid hw1
  have H := Lib.hid h
  have LB := Lib.hid (fun wx (hk : Kp No w1 wx) => show wx.cell? ⟨w.heap.size, 0, none⟩ = some (.int .u8 (k : Int)) ∧ wx.cell? ⟨w.heap.size, 2, none⟩ = some (.int .i64 p) ∧ wx.cell? ⟨pw, 1, none⟩ = some (.slice A n cap) from by
    refine ⟨blk_cell (hk.blk BX.out (no_no _)) 0, blk_cell (hk.blk BX.out (no_no _)) 2, ?_⟩
    have := (blk_cell (H.out.no (K1.out.no hk)).blk 1).trans rfl
    rw [this, ← hn]; rfl)
  have RD := Lib.hid (fun wx (hk : Kp No w1 wx) => show Rd PdK wx (.slice A n cap) P by have := (H.out.no (K1.out.no hk)).pd.rd; rwa [← hn] at this)
  obtain ⟨x0, x2, hc⟩ := LB.out w1 (Kp.refl _ _)
  have HN := Lib.hid hn
  clear h hn hw1
  by_cases hk2 : k = 2
  · have hkb : ((k : Int) == 2) = true := by simp; omega
    obtain ⟨pn, rfl⟩ : ∃ m : Nat, p = m := ⟨p.toNat, by have := hp (.inl hk2); omega⟩
    by_cases hpl : n ≤ pn
    · have hplI : ¬ (pn : Int) < (n : Int) := by omega
      have HE := Lib.hid (show canP P i k (pn : Int) cell = false by unfold canP; rw [if_pos hk2, decide_eq_false (by rw [← HN.out]; omega)]; rfl)
      clear hp hk2 hpl
      go_enter Tryz.func64, Tryz.ntmps64
      go_upto_region 1 with fail
      rw [← HW1.out]
      go_upto_region 3 with fail
      go_quiet (fail)
      go_wp2_with fail
      go_ret
      exact ⟨by rw [HE.out]; rfl, K1.out.drewN _⟩
    · have hplI : (pn : Int) < (n : Int) := by omega
      obtain ⟨y, hy⟩ : ∃ y, P[pn]? = some y := ⟨_, List.getElem?_eq_getElem (by rw [← HN.out]; omega)⟩
      obtain ⟨g, o, hAg⟩ : ∃ g o, A = some ⟨g, o, none⟩ := by
        rcases RD.out w1 (Kp.refl _ _) with ⟨_, he⟩ | ⟨g, o, cap', hv, _⟩
        · rw [he] at hy; cases hy
        · simp only [Value.slice.injEq] at hv; exact ⟨g, o, hv.1⟩
      subst hAg
      have YC := Lib.hid (fun wx (hk : Kp No w1 wx) => (RD.out wx hk).podAt hy)
      obtain ⟨y0, y1⟩ := YC.out w1 (Kp.refl _ _)
      obtain ⟨t, ht⟩ : ∃ t, decide (y = (cell, -1)) = t := ⟨_, rfl⟩
      have heq := fun w => eqPd y (cell, -1) t ht.symm w
      simp only at heq
      have HCN := Lib.hid (show canP P i k (pn : Int) cell = (t && !(P.any fun x => decide (x.2 = i))) by
        unfold canP
        rw [if_pos hk2, decide_eq_true (by rw [← HN.out]; exact hplI), Int.toNat_natCast, hy, ← ht]
        by_cases h : y = (cell, -1) <;> simp [h])
      clear hp hk2 hpl ht hy
      cases t with
      | false =>
        go_enter Tryz.func64, Tryz.ntmps64
        go_upto_region 1 with fail
        rw [← HW1.out]
        go_upto_region 3 with fail
        go_quiet (fail)
        go_wp2_with fail
        go_ret
        exact ⟨by rw [HCN.out]; rfl, K1.out.drewN _⟩
      | true =>
        have CA := Lib.hid (fun wx (hk : Kp No w1 wx) => carries_any (H.out.no (K1.out.no hk)) i)
        obtain ⟨q0, q2, q3⟩ := LB.out w1.drew (Kp.refl _ _).drew
        obtain ⟨r0, r1⟩ := YC.out w1.drew (Kp.refl _ _).drew
        go_enter Tryz.func64, Tryz.ntmps64
        go_upto_region 1 with fail
        rw [← HW1.out]
        go_upto_region 3 with fail
        go_region_held3 (fun w' => w'.cell? ⟨w.heap.size, 2, none⟩ = some (.int .i64 (pn : Int)) ∧ w'.cell? ⟨pw, 1, none⟩ = some (.slice (some ⟨g, o, none⟩) n cap) ∧ w'.cell? ⟨g, o + pn * 2, none⟩ = some (.int .i64 y.1) ∧ w'.cell? ⟨g, o + pn * 2 + 1, none⟩ = some (.int .i64 y.2) ∧ (binOp .eql 82 (.agg #[.int .i64 y.1, .int .i64 y.2]) (.agg #[.int .i64 cell, .int .i64 (-1)])).run Tryz.prog w' = .ok (.bool true) w')
          (first | exact ⟨by assumption, by assumption, by assumption, by assumption, heq _⟩ | exact ⟨q2, q3, r0, r1, heq _⟩)
          (first
            | (go_at_call 110; refine (CA.out w1.drew (Kp.refl _ _).drew).mono ?_; rintro e w3 ⟨r, rfl, hr3, k3⟩; have K3 := Lib.hid ((Kp.refl No w1).drew.no k3); have HR3 := Lib.hid hr3; obtain ⟨s0, s2, s3⟩ := LB.out w3 K3.out; obtain ⟨u0, u1⟩ := YC.out w3 K3.out; obtain ⟨b3, hb3⟩ : ∃ z, decide (r < 0) = z := ⟨_, rfl⟩; have HB3 := Lib.hid hb3; clear k3 hr3))
        go_wp2_with fail
        go_ret
        exact ⟨by rw [HCN.out, Bool.true_and, ← HR3.out, HB3.out]; rfl, K1.out.no (K3.out.no ((Kp.refl No _).drewN 0))⟩
  · have hkb : ((k : Int) == 2) = false := by simp; omega
    by_cases hk3 : k = 3
    · have hkc : ((k : Int) == 3) = true := by simp; omega
      obtain ⟨pn, rfl⟩ : ∃ m : Nat, p = m := ⟨p.toNat, by have := hp (.inr hk3); omega⟩
      by_cases hpl : n ≤ pn
      · have hplI : ¬ (pn : Int) < (n : Int) := by omega
        have HE := Lib.hid (show canP P i k (pn : Int) cell = false by unfold canP; rw [if_neg hk2, if_pos hk3, decide_eq_false (by rw [← HN.out]; omega)]; rfl)
        clear hp hk2 hk3 hpl
        go_enter Tryz.func64, Tryz.ntmps64
        go_upto_region 1 with fail
        rw [← HW1.out]
        go_upto_region 5 with fail
        go_quiet (fail)
        go_wp2_with fail
        go_ret
        exact ⟨by rw [HE.out]; rfl, K1.out.drewN _⟩
      · have hplI : (pn : Int) < (n : Int) := by omega
        obtain ⟨y, hy⟩ : ∃ y, P[pn]? = some y := ⟨_, List.getElem?_eq_getElem (by rw [← HN.out]; omega)⟩
        obtain ⟨g, o, hAg⟩ : ∃ g o, A = some ⟨g, o, none⟩ := by
          rcases RD.out w1 (Kp.refl _ _) with ⟨_, he⟩ | ⟨g, o, cap', hv, _⟩
          · rw [he] at hy; cases hy
          · simp only [Value.slice.injEq] at hv; exact ⟨g, o, hv.1⟩
        subst hAg
        have YC := Lib.hid (fun wx (hk : Kp No w1 wx) => (RD.out wx hk).podAt hy)
        obtain ⟨y0, y1⟩ := YC.out w1 (Kp.refl _ _)
        obtain ⟨t, ht⟩ : ∃ t, (y.2 == i) = t := ⟨_, rfl⟩
        have HCN := Lib.hid (show canP P i k (pn : Int) cell = (t && !(P.any fun x => decide (x = (cell, -1)))) by
          unfold canP
          rw [if_neg hk2, if_pos hk3, decide_eq_true (by rw [← HN.out]; exact hplI), Int.toNat_natCast, hy, ← ht]
          by_cases h : y.2 = i <;> simp [h])
        clear hp hk2 hk3 hpl hy
        cases t with
        | false =>
          go_enter Tryz.func64, Tryz.ntmps64
          go_upto_region 1 with fail
          rw [← HW1.out]
          go_upto_region 5 with fail
          go_quiet (fail)
          go_wp2_with fail
          go_ret
          exact ⟨by rw [HCN.out]; rfl, K1.out.drewN _⟩
        | true =>
          obtain ⟨cb, hcb⟩ : ∃ z, (P.any fun x => decide (x = (cell, -1))) = z := ⟨_, rfl⟩
          have CA := Lib.hid (fun wx (hk : Kp No w1 wx) => conP_any (RD.out wx hk) (cell, -1) cb hcb)
          rw [hcb] at HCN
          simp only at CA
          obtain ⟨q0, q2, q3⟩ := LB.out w1.drew (Kp.refl _ _).drew
          obtain ⟨r0, r1⟩ := YC.out w1.drew (Kp.refl _ _).drew
          clear hcb
          go_enter Tryz.func64, Tryz.ntmps64
          go_upto_region 1 with fail
          rw [← HW1.out]
          go_upto_region 5 with fail
          go_region_held3 (fun w' => w'.cell? ⟨w.heap.size, 2, none⟩ = some (.int .i64 (pn : Int)) ∧ w'.cell? ⟨pw, 1, none⟩ = some (.slice (some ⟨g, o, none⟩) n cap) ∧ w'.cell? ⟨g, o + pn * 2 + 1, none⟩ = some (.int .i64 y.2))
            (first | exact ⟨by assumption, by assumption, by assumption⟩ | exact ⟨q2, q3, r1⟩)
            (first
              | (go_at_call 111; refine (CA.out w1.drew (Kp.refl _ _).drew).mono ?_; rintro e w3 ⟨rfl, k3⟩; have K3 := Lib.hid ((Kp.refl No w1).drew.no k3); obtain ⟨s0, s2, s3⟩ := LB.out w3 K3.out; obtain ⟨u0, u1⟩ := YC.out w3 K3.out; clear k3))
          go_wp2_with fail
          go_ret
          exact ⟨by rw [HCN.out]; rfl, K1.out.no (K3.out.no ((Kp.refl No _).drewN 0))⟩
    · have hkc : ((k : Int) == 3) = false := by simp; omega
      have HE := Lib.hid (show canP P i k p cell = true by unfold canP; rw [if_neg hk2, if_neg hk3])
      clear hp hk2 hk3
      go_enter Tryz.func64, Tryz.ntmps64
      go_upto_region 1 with fail
      rw [← HW1.out]
      go_wp2_with fail
      go_ret
      exact ⟨by rw [HE.out]; rfl, K1.out⟩
end Go.Proofs.YtfpikgkbccgchaaGreatDoor

namespace Go.Proofs.YtfpikgkbccgchaaGreatDoor
set_option linter.unusedVariables false
set_option linter.unusedSimpArgs false
open Go.RowKit

theorem encs_extP {α : Type} (K : Kd α) : ∀ (E : List α) (L : List Value), L.length = E.length * K.sz → (∀ (i : Nat) x (j : Nat), E[i]? = some x → j < K.sz → L[i * K.sz + j]? = (K.enc x)[j]?) → L = K.encs E := by
  intro E L hl h
  apply List.ext_getElem?
  intro m
  by_cases hm : m < E.length * K.sz
  · have hp := K.pos
    have hq : m / K.sz < E.length := by rw [Nat.div_lt_iff_lt_mul hp]; exact hm
    obtain ⟨x, hx⟩ : ∃ x, E[m / K.sz]? = some x := ⟨_, List.getElem?_eq_getElem hq⟩
    have hr := Nat.mod_lt m hp
    have h1 := h (m / K.sz) x (m % K.sz) hx hr
    have h2 := K.encs_get E (m / K.sz) (m % K.sz) x hx hr
    rw [Nat.div_add_mod' m K.sz] at h1 h2
    rw [h1, h2]
  · rw [List.getElem?_eq_none (by omega), List.getElem?_eq_none (by rw [K.length_encs]; omega)]
/-- One cell of a pod is written. -/
theorem Own.setPd {w : World} {e : TypeId} {g n cap : Nat} {E : List (Int × Int)} (h : Own PdK e w (.slice (some ⟨g, 0, none⟩) n cap) E) {i : Nat} {x y : Int × Int} (hx : E[i]? = some x) (j0 : Nat) (hj0 : j0 < 2) (u : Value) (hy : ∀ j, j < 2 → (PdK.enc y)[j]? = if j = j0 then some u else (PdK.enc x)[j]?) :
    Own PdK e (w.setCell ⟨g, i * 2 + j0, none⟩ u) (.slice (some ⟨g, 0, none⟩) n cap) (E.set i y) := by
  have hi := (List.getElem?_eq_some_iff.1 hx).1
  rcases h with ⟨hv, _⟩ | ⟨g', cap', cur, hv, hb, hlc, hcm, hsz, htake⟩
  · simp at hv
  simp only [Value.slice.injEq, Option.some.injEq, Addr.mk.injEq] at hv
  obtain ⟨⟨rfl, _, _⟩, rfl, rfl⟩ := hv
  have hsz3 : cur.size = cap * 2 := hsz
  refine .inr ⟨g, cap, _, by rw [List.length_set], blk_set hb _ _, by rw [List.length_set]; exact hlc, hcm, by simp; exact hsz, ?_⟩
  have h3 : PdK.sz = 2 := rfl
  refine encs_extP PdK _ _ ?_ fun m z j hz hj => ?_
  · rw [List.length_take, List.length_set, h3]
    have : (cur.setIfInBounds (i * 2 + j0) u).toList.length = cap * 2 := by simp [hsz3]
    rw [this]; omega
  · rw [h3] at hj ⊢
    have hml := (List.getElem?_eq_some_iff.1 hz).1
    rw [List.length_set] at hml
    rw [List.getElem?_take, List.length_set, if_pos (show m * 2 + j < E.length * 2 by omega)]
    rw [Array.getElem?_toList, Array.getElem?_setIfInBounds]
    rw [List.getElem?_set] at hz
    have old : ∀ (m : Nat) z, E[m]? = some z → m < E.length → cur[m * 2 + j]? = (PdK.enc z)[j]? := fun m z hz hml => by
      have h4 := PdK.encs_get E m j z hz (by rw [h3]; exact hj)
      rw [← htake, List.getElem?_take, h3, if_pos (show m * 2 + j < E.length * 2 by omega), Array.getElem?_toList] at h4
      exact h4
    by_cases hmi : i = m
    · subst hmi
      rw [if_pos rfl, if_pos hi] at hz
      cases hz
      rw [hy j hj]
      by_cases e : j = j0
      · subst e
        rw [if_pos rfl, if_pos (by rw [hsz3]; omega), if_pos rfl]
      · rw [if_neg (by omega), if_neg e]
        exact old i x hx hi
    · rw [if_neg hmi] at hz
      rw [if_neg (by omega)]
      exact old m z hz hml
theorem pd_hy1 (x : Int × Int) (u : Int) : ∀ j, j < 2 → (PdK.enc (x.1, u))[j]? = if j = 1 then some (.int .i64 u) else (PdK.enc x)[j]? := by
  intro j hj
  match j, hj with
  | 0, _ => rfl
  | 1, _ => rfl
theorem pd_hy0 (x : Int × Int) (u : Int) : ∀ j, j < 2 → (PdK.enc (u, x.2))[j]? = if j = 0 then some (.int .i64 u) else (PdK.enc x)[j]? := by
  intro j hj
  match j, hj with
  | 0, _ => rfl
  | 1, _ => rfl
theorem canP_idx {P : List (Int × Int)} {i : Int} {k : Nat} {p cell : Int} (h : canP P i k p cell = true) (hp : 0 ≤ p) (hk : k = 2 ∨ k = 3) : ∃ (m : Nat) (y : Int × Int), p = m ∧ P[m]? = some y := by
  have hl : p < (P.length : Int) := by
    unfold canP at h
    rcases hk with rfl | rfl
    · rw [if_pos rfl] at h
      simp only [Bool.and_eq_true, decide_eq_true_eq] at h
      exact h.1.1
    · rw [if_neg (by decide), if_pos rfl] at h
      simp only [Bool.and_eq_true, decide_eq_true_eq] at h
      exact h.1.1
  exact ⟨p.toNat, P[p.toNat]'(by omega), by omega, List.getElem?_eq_getElem _⟩
theorem wstep_nil (w : World) (i : Int) : Calls Tryz.prog 23 #[.pointer none, .int .i64 i] w fun e w' => e = .returned (.int .i64 2) ∧ Kp No w w' := by
  go_enter Tryz.func23, Tryz.ntmps23
  go_wp2_with fail
  refine (whas_nil w i).mono ?_
  rintro e w1 ⟨rfl, rfl⟩
  go_wp2_with fail
  go_ret
  exact ⟨rfl, Kp.refl _ _⟩
set_option maxHeartbeats 2000000 in
set_option maxRecDepth 100000 in
theorem wstep_any {G : Nat → Prop} {w0 w : World} {pw : Nat} {W : List PU} {P : List (Int × Int)} (h : WldP G w0 pw W P w) (i : Int) : Calls Tryz.prog 23 #[.pointer (some ⟨pw, 0, none⟩), .int .i64 i] w fun e w' => e = .returned (.int .i64 (stepP W P i).2.2) ∧ WldP G w0 pw (stepP W P i).1 (stepP W P i).2.1 w' := by
  obtain ⟨uv, pv, U, h, rfl⟩ := h
  have WH := Lib.hid (whas_any h i)
  cases hg : getU U i with
  | none =>
    have HE := Lib.hid (show stepP (U.map Un.pl) P i = (U.map Un.pl, P, 1) by unfold stepP; rw [getP_pl, hg]; rfl)
    have HH := Lib.hid (show hasE U.length i = 1 by
      unfold hasE
      rw [if_neg]
      intro hb
      obtain ⟨k, rfl, hk⟩ := hasB_nat hb
      rw [getU_of (List.getElem?_eq_getElem hk)] at hg; cases hg)
    rw [HH.out] at WH
    have H := Lib.hid h.p
    clear h hg
    go_enter Tryz.func23, Tryz.ntmps23
    go_wp2_with fail
    refine WH.out.mono ?_
    rintro e w1 ⟨rfl, rfl⟩
    go_wp2_with fail
    go_ret
    exact ⟨by rw [HE.out]; rfl, by rw [HE.out]; exact H.out⟩
  | some u =>
    obtain ⟨m, rfl, hu⟩ := getU_some hg
    obtain ⟨g, o, cap, p0, p1, p2, p3, hk⟩ := h.ptrs hu
    have HH := Lib.hid (show hasE U.length (m : Int) = 0 by unfold hasE hasB; rw [if_pos (by simp; omega)])
    rw [HH.out] at WH
    have H := Lib.hid h; have HU := Lib.hid hu
    have HM := Lib.hid (fun wx (hk : Kp No w wx) => (h.no hk).un m u hu)
    have HG := Lib.hid (show getP (U.map Un.pl) (m : Int) = some u.pl by rw [getP_pl, hg]; rfl)
    have hkI : (m : Int) < (U.length : Int) := by omega
    have hk0 : ¬ (m : Int) < 0 := by omega
    obtain ⟨n, hn⟩ : ∃ z, z = U.length := ⟨_, rfl⟩
    rw [← hn] at hkI p0
    obtain ⟨c0, cl, hcl⟩ := cellsL_cons u.R
    have HCL := Lib.hid hcl
    have HCP := Lib.hid (show cellP (U.map Un.pl) (m : Int) = c0 by unfold cellP cellsP; rw [HG.out]; show (cellsL u.R).headD 0 = c0; rw [hcl]; rfl)
    have OK := Lib.hid (HM.out w (Kp.refl _ _)).ok
    have NX := Lib.hid (next_any (HM.out w (Kp.refl _ _)).rob)
    obtain ⟨ac, hac⟩ : ∃ z, u.R.act = z := ⟨_, rfl⟩
    have HAC := Lib.hid hac
    unfold NextR at NX
    clear h hg hu hn hk p2 p3 hcl
    cases ac with
    | none =>
      have HE := Lib.hid (show stepP (U.map Un.pl) P (m : Int) = (U.map Un.pl, P, 2) by unfold stepP; rw [HG.out]; simp only; rw [show u.pl.R.act = none from hac])
      rw [show u.R.act.isSome = false by rw [hac]; rfl] at NX
      clear hac
      go_enter Tryz.func23, Tryz.ntmps23
      go_wp2_with fail
      refine WH.out.mono ?_
      rintro e w1 ⟨rfl, rfl⟩
      go_wp2_with fail
      refine NX.out.mono ?_
      rintro e w2 ⟨rfl, k2⟩
      have K2 := Lib.hid k2
      clear k2
      go_wp2_with fail
      go_ret
      exact ⟨by rw [HE.out]; rfl, by rw [HE.out]; exact (H.out.no (K2.out.alloc _)).p⟩
    | some x =>
      obtain ⟨k, c, p⟩ := x
      have hmay := mayA_spec (OK.out.act _ _ _ hac)
      have HMAY := Lib.hid hmay
      rw [show u.R.act.isSome = true by rw [hac]; rfl, show actK u.R = k by unfold actK; rw [hac], show actC u.R = c by unfold actC; rw [hac], show actP u.R = p by unfold actP; rw [hac]] at NX
      obtain ⟨cb, hcb⟩ : ∃ z, canP P (m : Int) k p c0 = z := ⟨_, rfl⟩
      have HCB := Lib.hid hcb
      obtain ⟨sb, hsb⟩ : ∃ z, stepB u.R = z := ⟨_, rfl⟩
      have HSB := Lib.hid hsb
      have HE := Lib.hid (show stepP (U.map Un.pl) P (m : Int) = if cb = true then ((U.map Un.pl).set m { u.pl with R := stepS u.R }, if sb = true then (if k = 2 then (match P[p.toNat]? with | some x => P.set p.toNat (x.1, (m : Int)) | none => P) else if k = 3 then P.set p.toNat (c0, -1) else P) else P, 0) else (U.map Un.pl, P, 190) by
        unfold stepP; rw [HG.out]; simp only
        rw [show u.pl.R.act = some (k, c, p) from hac, HCP.out]
        simp only [hcb, Int.toNat_natCast]
        rw [show u.pl.R = u.R from rfl, hsb]
        rfl)
      clear hac hcb hsb hmay
      go_enter Tryz.func23, Tryz.ntmps23
      go_wp2_with fail
      refine WH.out.mono ?_
      rintro e w1 ⟨rfl, rfl⟩
      go_wp2_with fail
      refine NX.out.mono ?_
      rintro e w2 ⟨rfl, k2⟩
      have K2 := Lib.hid k2
      clear k2
      go_upto_region 6 with fail
      obtain ⟨w3, hw3⟩ : ∃ y : World, y = w2.alloc (.cells #[.int .u8 (k : Int), .int .i64 c, .int .i64 p] 40) := ⟨_, rfl⟩
      rw [← hw3]
      have BX := Lib.hid (show w3.heap[w2.heap.size]? = some (.cells #[.int .u8 (k : Int), .int .i64 c, .int .i64 p] 40 (0, 0)) by rw [hw3]; exact blk_new w2 _)
      have K3 := Lib.hid (show Kp No w w3 by rw [hw3]; exact K2.out.alloc _)
      clear hw3
      go_wp2_with fail
      refine (cells_any (HM.out w3 K3.out).rob).mono ?_
      rintro e w4 ⟨v4, rfl, n4⟩
      rw [HCL.out] at n4
      have K4 := Lib.hid (K3.out.no n4.kp)
      have BX4 := Lib.hid (n4.kp.blk BX.out (no_no _))
      obtain ⟨g4, o4, cap4, hv4, hlc4⟩ : ∃ g4 o4 cap4, v4 = .slice (some ⟨g4, o4, none⟩) (cl.length + 1) cap4 ∧ w4.cell? ⟨g4, o4, none⟩ = some (.int .i64 c0) := by
        have hr := n4.own.rd
        rcases hr with ⟨_, he⟩ | ⟨g3, o3, cap3, hv3, q⟩
        · cases he
        · have hr : Rd IK w4 v4 (c0 :: cl) := .inr ⟨g3, o3, cap3, hv3, q⟩
          rw [hv3] at hr
          exact ⟨g3, o3, cap3, hv3, by have := hr.intAt (i := 0) rfl; simpa using this⟩
      subst hv4
      obtain ⟨n4', hn4⟩ : ∃ z, z = cl.length + 1 := ⟨_, rfl⟩
      rw [← hn4]
      have hn40 : (0 : Int) < (n4' : Int) := by omega
      have b0 : w4.cell? ⟨w2.heap.size, 0, none⟩ = some (.int .u8 (k : Int)) := blk_cell BX4.out 0
      have b1 : w4.cell? ⟨w2.heap.size, 1, none⟩ = some (.int .i64 c) := blk_cell BX4.out 1
      have b2 : w4.cell? ⟨w2.heap.size, 2, none⟩ = some (.int .i64 p) := blk_cell BX4.out 2
      have CN := Lib.hid (can_any (H.out.no K4.out) (m : Int) k c p c0 (fun _ => HMAY.out.2.2.2.2.1))
      rw [HCB.out] at CN
      clear n4 hn4
      go_wp2_with fail
      refine CN.out.mono ?_
      rintro e w5 ⟨rfl, k5⟩
      have K5 := Lib.hid (K4.out.no k5)
      have BX5 := Lib.hid (k5.blk BX4.out (no_no _))
      clear k5 b0 b1 b2 hlc4
      cases cb with
      | false =>
        go_wp2_with fail
        go_ret
        exact ⟨by rw [HE.out]; rfl, by rw [HE.out]; exact (H.out.no K5.out).p⟩
      | true =>
        have M5 := Lib.hid (HM.out w5 K5.out)
        have H5 := Lib.hid (H.out.no K5.out)
        have ST := Lib.hid (step_any M5.out.rob M5.out.ok)
        unfold StepR at ST
        rw [HSB.out] at ST
        go_wp2_with fail
        refine ST.out.mono ?_
        rintro e w6 ⟨rfl, r6⟩
        obtain ⟨u', hu', e1, e2, e3, e4, e5⟩ := M5.out.robTo r6 (stepS_ok M5.out.ok)
        have H6 := Lib.hid (H5.out.upd HU.out r6.kp (fun k hk => UnB.r hk) hu' e4 (fun k hk => .inl (e5 k hk)))
        have UP := Lib.hid (show (U.set m u').map Un.pl = (U.map Un.pl).set m { u.pl with R := stepS u.R } by rw [List.map_set]; congr 1; unfold Un.pl; rw [e1, e2, e3])
        have BX6 := Lib.hid (r6.kp.blk BX5.out (M5.out.rob.ty3.not BX5.out (by decide)))
        clear r6 hu' e1 e2 e3 e4 e5
        cases sb with
        | false =>
          go_wp2_with fail
          go_ret
          exact ⟨by rw [HE.out]; rfl, by rw [HE.out]; exact ⟨uv, pv, U.set m u', H6.out, UP.out⟩⟩
        | true =>
          have b0 : w6.cell? ⟨w2.heap.size, 0, none⟩ = some (.int .u8 (k : Int)) := blk_cell BX6.out 0
          have b2 : w6.cell? ⟨w2.heap.size, 2, none⟩ = some (.int .i64 p) := blk_cell BX6.out 2
          have c1 : w6.cell? ⟨pw, 1, none⟩ = some pv := (blk_cell H6.out.blk 1).trans rfl
          by_cases hk1 : k = 1
          · have hkb : ((k : Int) == 2) = false := by simp; omega
            have hkc : ((k : Int) == 3) = false := by simp; omega
            have HE2 := Lib.hid (show stepP (U.map Un.pl) P (m : Int) = ((U.map Un.pl).set m { u.pl with R := stepS u.R }, P, 0) by rw [HE.out]; simp [hk1])
            clear hk1 b2 c1
            go_wp2_with fail
            go_ret
            exact ⟨by rw [HE2.out]; rfl, by rw [HE2.out]; exact ⟨uv, pv, U.set m u', H6.out, UP.out⟩⟩
          · obtain ⟨pn, y, rfl, hy⟩ := canP_idx HCB.out HMAY.out.2.2.2.2.1 (by have := HMAY.out; omega)
            have hpl := (List.getElem?_eq_some_iff.1 hy).1
            obtain ⟨nP, hnP⟩ : ∃ z, z = P.length := ⟨_, rfl⟩
            have hplI : (pn : Int) < (nP : Int) := by omega
            rcases H6.out.pd.b with ⟨_, he⟩ | ⟨gP, capP, hvP, hcm, hlc, hob⟩
            · rw [he] at hy; cases hy
            rw [← hnP] at hvP
            subst hvP
            have OP := Lib.hid H6.out.pd
            have hfr : ∀ z, w6.frozen? ⟨gP, z, none⟩ = false := fun z => by obtain ⟨cur, hb, _⟩ := hob; exact blk_free hb z
            have hf0 := hfr (pn * 2); have hf1 := hfr (pn * 2 + 1)
            have HY := Lib.hid hy
            have y0 : w6.cell? ⟨gP, pn * 2, none⟩ = some (.int .i64 y.1) := by have := (OP.out.rd.podAt hy).1; simpa using this
            have y1 : w6.cell? ⟨gP, pn * 2 + 1, none⟩ = some (.int .i64 y.2) := by have := (OP.out.rd.podAt hy).2; simpa using this
            clear hfr hob hy hpl hnP hcm hlc
            by_cases hk2 : k = 2
            · have hkb : ((k : Int) == 2) = true := by simp; omega
              have HE2 := Lib.hid (show stepP (U.map Un.pl) P (m : Int) = ((U.map Un.pl).set m { u.pl with R := stepS u.R }, P.set pn (y.1, (m : Int)), 0) by rw [HE.out]; simp [hk2, HY.out])
              clear hk1 hk2
              have KZ := Lib.hid (Kp.one (w := w6) (p := gP) (pn * 2 + 1) (.int .i64 (m : Int)))
              have c1z : (w6.setCell ⟨gP, pn * 2 + 1, none⟩ (.int .i64 (m : Int))).drew.cell? ⟨pw, 1, none⟩ = some (.slice (some ⟨gP, 0, none⟩) nP capP) := KZ.out.drew.cellS c1 (fun e => own_neB OP.out H6.out.blk (by decide) gP rfl e.symm)
              have b2z : (w6.setCell ⟨gP, pn * 2 + 1, none⟩ (.int .i64 (m : Int))).drew.cell? ⟨w2.heap.size, 2, none⟩ = some (.int .i64 (pn : Int)) := KZ.out.drew.cellS b2 (fun e => own_neB OP.out BX6.out (by decide) gP rfl e.symm)
              have OZ := Lib.hid (OP.out.setPd (y := (y.1, (m : Int))) HY.out 1 (by decide) (.int .i64 (m : Int)) (pd_hy1 y (m : Int)))
              go_upto_region 15 with fail
              go_region_held3 (fun w' => w'.cell? ⟨pw, 1, none⟩ = some (.slice (some ⟨gP, 0, none⟩) nP capP) ∧ w'.cell? ⟨w2.heap.size, 2, none⟩ = some (.int .i64 (pn : Int)))
                (first | exact ⟨by assumption, by assumption⟩ | exact ⟨c1, b2⟩ | exact ⟨c1z, b2z⟩)
                (fail)
              go_wp2_with fail
              go_ret
              refine ⟨by rw [HE2.out]; rfl, ?_⟩
              rw [HE2.out]
              exact ⟨uv, _, U.set m u', H6.out.pods (pv' := uv) ((KZ.out.mono fun k _ e => by rw [e]; rfl).drew) OZ.out, UP.out⟩
            · have hkb : ((k : Int) == 2) = false := by simp; omega
              have hkc : ((k : Int) == 3) = true := by have := HMAY.out; simp; omega
              have HE2 := Lib.hid (show stepP (U.map Un.pl) P (m : Int) = ((U.map Un.pl).set m { u.pl with R := stepS u.R }, P.set pn (c0, -1), 0) by rw [HE.out]; simp [show k = 3 by have := HMAY.out; omega])
              clear hk1 hk2
              have KZ := Lib.hid ((Kp.one (w := w6) (p := gP) (pn * 2) (.int .i64 c0)).trans (Kp.one (w := w6.setCell ⟨gP, pn * 2, none⟩ (.int .i64 c0)) (p := gP) (pn * 2 + 1) (.int .i64 (-1))))
              have c1z : ((w6.setCell ⟨gP, pn * 2, none⟩ (.int .i64 c0)).setCell ⟨gP, pn * 2 + 1, none⟩ (.int .i64 (-1))).drew.cell? ⟨pw, 1, none⟩ = some (.slice (some ⟨gP, 0, none⟩) nP capP) := KZ.out.drew.cellS c1 (fun e => own_neB OP.out H6.out.blk (by decide) gP rfl e.symm)
              have b2z : ((w6.setCell ⟨gP, pn * 2, none⟩ (.int .i64 c0)).setCell ⟨gP, pn * 2 + 1, none⟩ (.int .i64 (-1))).drew.cell? ⟨w2.heap.size, 2, none⟩ = some (.int .i64 (pn : Int)) := KZ.out.drew.cellS b2 (fun e => own_neB OP.out BX6.out (by decide) gP rfl e.symm)
              have O1 := OP.out.setPd (y := (c0, y.2)) HY.out 0 (by decide) (.int .i64 c0) (pd_hy0 y c0)
              have O2 := O1.setPd (i := pn) (x := (c0, y.2)) (y := (c0, -1)) (by rw [List.getElem?_set, if_pos rfl, if_pos (List.getElem?_eq_some_iff.1 HY.out).1]) 1 (by decide) (.int .i64 (-1)) (pd_hy1 (c0, y.2) (-1))
              rw [List.set_set] at O2
              have OZ := Lib.hid O2
              clear O1 O2
              go_upto_region 17 with fail
              go_region_held3 (fun w' => w'.cell? ⟨pw, 1, none⟩ = some (.slice (some ⟨gP, 0, none⟩) nP capP) ∧ w'.cell? ⟨w2.heap.size, 2, none⟩ = some (.int .i64 (pn : Int)))
                (first | exact ⟨by assumption, by assumption⟩ | exact ⟨c1, b2⟩ | exact ⟨c1z, b2z⟩)
                (fail)
              go_wp2_with fail
              go_ret
              refine ⟨by rw [HE2.out]; rfl, ?_⟩
              rw [HE2.out]
              exact ⟨uv, _, U.set m u', H6.out.pods (pv' := uv) ((KZ.out.mono fun k _ e => by rw [e]; rfl).drew) OZ.out, UP.out⟩
end Go.Proofs.YtfpikgkbccgchaaGreatDoor

namespace Go.Proofs.YtfpikgkbccgchaaGreatDoor
set_option linter.unusedVariables false
set_option linter.unusedSimpArgs false
open Go.RowKit

def kdS (s : ByteArray) (i : Nat) : Nat := kindB (bt s i)
def laneI (s : ByteArray) (i : Nat) : Prop := i < s.size ∧ kdS s i = 2
instance (s : ByteArray) (i : Nat) : Decidable (laneI s i) := inferInstanceAs (Decidable (_ ∧ _))
theorem beside_mem {W H c j : Nat} : j ∈ besideP W H c ↔ (0 < c / W ∧ j = c - W) ∨ (c % W + 1 < W ∧ j = c + 1) ∨ (c / W + 1 < H ∧ j = c + W) ∨ (0 < c % W ∧ j = c - 1) := by
  unfold besideP
  simp only [List.mem_append]
  constructor
  · rintro (((h | h) | h) | h)
    all_goals
      split at h
      · simp at h; simp [*]
      · simp at h
  · rintro (⟨h, rfl⟩ | ⟨h, rfl⟩ | ⟨h, rfl⟩ | ⟨h, rfl⟩)
    · exact .inl (.inl (.inl (by simp [h])))
    · exact .inl (.inl (.inr (by simp [h])))
    · exact .inl (.inr (by simp [h]))
    · exact .inr (by simp [h])
theorem beside_lt {W H c j : Nat} (hW : 1 ≤ W) (hc : c < W * H) (h : j ∈ besideP W H c) : j < W * H := by
  have hm := Nat.div_add_mod c W
  have hl := Nat.mod_lt c hW
  rcases beside_mem.1 h with ⟨_, rfl⟩ | ⟨h1, rfl⟩ | ⟨h1, rfl⟩ | ⟨_, rfl⟩
  · omega
  · have : c / W < H := Nat.div_lt_of_lt_mul hc
    have h2 : W * (c / W + 1) ≤ W * H := Nat.mul_le_mul_left W this
    rw [Nat.mul_add] at h2
    omega
  · have h2 : W * (c / W + 1 + 1) ≤ W * H := Nat.mul_le_mul_left W h1
    rw [Nat.mul_add, Nat.mul_add] at h2
    omega
  · omega
theorem beside_symm {W H c j : Nat} (hW : 1 ≤ W) (hc : c < W * H) (h : j ∈ besideP W H c) : c ∈ besideP W H j := by
  have hm := Nat.div_add_mod c W
  have hl := Nat.mod_lt c hW
  have hdc : c / W < H := Nat.div_lt_of_lt_mul hc
  rw [beside_mem]
  rcases beside_mem.1 h with ⟨h1, rfl⟩ | ⟨h1, rfl⟩ | ⟨h1, rfl⟩ | ⟨h1, rfl⟩
  · have h2 : W * 1 ≤ W * (c / W) := Nat.mul_le_mul_left W h1
    have h3 : (c - W) / W + 1 = c / W := by
      have : c = (c - W) + W := by omega
      conv => rhs; rw [this, Nat.add_div_right _ hW]
    exact .inr (.inr (.inl ⟨by omega, by omega⟩))
  · have h3 : (c + 1) % W = c % W + 1 := by
      rw [Nat.add_mod, Nat.mod_eq_of_lt (a := c % W + 1 % W)]
      · by_cases h : W = 1
        · omega
        · rw [Nat.mod_eq_of_lt (by omega : 1 < W)]
      · by_cases h : W = 1
        · omega
        · rw [Nat.mod_eq_of_lt (by omega : 1 < W)]; omega
    exact .inr (.inr (.inr ⟨by omega, by omega⟩))
  · exact .inl ⟨Nat.div_pos (Nat.le_add_left W c) hW, by omega⟩
  · have h3 : (c - 1) % W + 1 = c % W := by
      have e : c - 1 = W * (c / W) + (c % W - 1) := by omega
      rw [e, Nat.mul_add_mod, Nat.mod_eq_of_lt (by omega)]; omega
    exact .inr (.inl ⟨by omega, by omega⟩)
theorem beside_ne {W H c : Nat} (hW : 1 ≤ W) : c ∉ besideP W H c := by
  intro h
  have hm := Nat.div_add_mod c W
  rcases beside_mem.1 h with ⟨h1, e⟩ | ⟨h1, e⟩ | ⟨h1, e⟩ | ⟨h1, e⟩
  · have h2 : W * 1 ≤ W * (c / W) := Nat.mul_le_mul_left W h1
    omega
  · omega
  · omega
  · have := Nat.mod_le c W; omega

/-- j is reached from i, through lanes. -/
inductive Conn (W H : Nat) (s : ByteArray) (i : Nat) : Nat → Prop
  | refl : Conn W H s i i
  | step {j k : Nat} : Conn W H s i j → k ∈ besideP W H j → laneI s k → Conn W H s i k
section
variable {W H i j k : Nat} {s : ByteArray}
theorem Conn.trans (h : Conn W H s i j) (g : Conn W H s j k) : Conn W H s i k := by
  induction g with
  | refl => exact h
  | step _ h1 h2 ih => exact .step ih h1 h2
theorem Conn.lane (h : Conn W H s i j) (hi : laneI s i) : laneI s j := by cases h with | refl => exact hi | step _ _ h => exact h
theorem Conn.symm (hW : 1 ≤ W) (hl : s.size = W * H) (h : Conn W H s i j) (hi : laneI s i) : Conn W H s j i := by
  induction h with
  | refl => exact .refl
  | step h0 h1 h2 ih =>
    have hj := h0.lane hi
    exact (Conn.step .refl (beside_symm hW (by rw [← hl]; exact hj.1) h1) hj).trans ih
/-- Whatever holds where the way begins, and goes on to lanes beside, holds where it comes. -/
theorem Conn.closed {p : Nat → Prop} (h : Conn W H s i j) (h0 : p i) (hs : ∀ j k, p j → k ∈ besideP W H j → laneI s k → p k) : p j := by
  induction h with
  | refl => exact h0
  | step _ h1 h2 ih => exact hs _ _ ih h1 h2
end
def joinedP (W H : Nat) (s : ByteArray) : Prop := (∃ i, laneI s i) ∧ ∀ i j, laneI s i → laneI s j → Conn W H s i j
theorem joined_one {W H l : Nat} {s : ByteArray} (hW : 1 ≤ W) (hs : s.size = W * H) (hl : laneI s l) : joinedP W H s ↔ ∀ j, laneI s j → Conn W H s l j :=
  ⟨fun h j hj => h.2 l j hl hj, fun h => ⟨⟨l, hl⟩, fun i j hi hj => ((h i hi).symm hW hs hl).trans (h j hj)⟩⟩

/-! ### Docks -/
structure DocksL (s : ByteArray) (ds : List Nat) : Prop where
  ne : ds ≠ []
  at_ : ∀ r i, ds[r]? = some i → i < s.size ∧ kdS s i = 3 ∧ bt s i = 48 + r
  all : ∀ i, i < s.size → kdS s i = 3 → ds[bt s i - 48]? = some i
theorem kd_dock {c : Nat} (h : kindB c = 3) : 48 ≤ c ∧ c < 56 := by
  unfold kindB at h
  split at h
  · cases h
  · split at h
    · cases h
    · split at h
      · assumption
      · cases h
theorem kd_lane {c : Nat} (h : kindB c = 2) : 97 ≤ c ∧ c ≤ 122 := by
  unfold kindB at h
  split at h
  · cases h
  · split at h
    · assumption
    · split at h <;> cases h
theorem kd_wall {c : Nat} (h : kindB c = 1) : c = 35 := by
  unfold kindB at h
  split at h
  · assumption
  · split at h
    · cases h
    · split at h <;> cases h
theorem DocksL.uniq {s : ByteArray} {a b : List Nat} (ha : DocksL s a) (hb : DocksL s b) : a = b := by
  have key : ∀ {a b : List Nat}, DocksL s a → DocksL s b → ∀ r i : Nat, a[r]? = some i → b[r]? = some i := by
    intro a b ha hb r i h
    obtain ⟨h1, h2, h3⟩ := ha.at_ r i h
    have := hb.all i h1 h2
    rwa [h3, Nat.add_sub_cancel_left] at this
  apply List.ext_getElem?
  intro r
  cases h : a[r]? with
  | some i => exact (key ha hb r i h).symm
  | none =>
    cases h' : b[r]? with
    | none => rfl
    | some i => rw [key hb ha r i h'] at h; cases h
theorem DocksL.len {s : ByteArray} {ds : List Nat} (h : DocksL s ds) : ds.length ≤ 8 := by
  rcases Nat.lt_or_ge 8 ds.length with hl | hl
  · obtain ⟨h1, h2, h3⟩ := h.at_ 8 _ (List.getElem?_eq_getElem hl)
    have := kd_dock h2
    unfold kdS at h2
    omega
  · exact hl

/-- Which floors may be. -/
structure RightP (f : Flr) : Prop where
  w1 : 1 ≤ f.W
  w2 : f.W ≤ 16
  h1 : 1 ≤ f.H
  h2 : f.H ≤ 16
  len : (f.s.size : Int) = f.W * f.H
  kinds : ∀ i, i < f.s.size → kdS f.s i ≠ 0
  docks : ∃ ds, DocksL f.s ds
  join : joinedP f.W.toNat f.H.toNat f.s
  by_ : ∀ i, i < f.s.size → kdS f.s i = 3 → ∃ j ∈ besideP f.W.toNat f.H.toNat i, laneI f.s j
open Classical in
noncomputable def rightB (f : Flr) : Bool := decide (RightP f)
open Classical in
theorem rightB_t {f : Flr} (h : RightP f) : rightB f = true := by unfold rightB; exact decide_eq_true h
open Classical in
theorem rightB_f {f : Flr} (h : ¬ RightP f) : rightB f = false := by unfold rightB; exact decide_eq_false h
theorem rightB_iff {f : Flr} : rightB f = true ↔ RightP f := by unfold rightB; simp
end Go.Proofs.YtfpikgkbccgchaaGreatDoor

namespace Go.Proofs.YtfpikgkbccgchaaGreatDoor
set_option linter.unusedVariables false
set_option linter.unusedSimpArgs false
open Go.RowKit

/-- Behind k cells: a: at its number, where each dock is (and one more); n: how many. -/
structure DkI (s : ByteArray) (k : Nat) (a : List Nat) (n : Nat) : Prop where
  len : a.length = 8
  sound : ∀ r i : Nat, a[r]? = some (i + 1) → i < k ∧ kdS s i = 3 ∧ bt s i = 48 + r
  full : ∀ i, i < k → kdS s i = 3 → a[bt s i - 48]? = some (i + 1)
  cnt : n = (a.filter fun x => x != 0).length
theorem filter_set (a : List Nat) : ∀ (r x : Nat), a[r]? = some 0 → x ≠ 0 → ((a.set r x).filter fun x => x != 0).length = (a.filter fun x => x != 0).length + 1 := by
  induction a with
  | nil => intro r x h; simp at h
  | cons y ys ih =>
    intro r x h hx
    rcases r with _ | r
    · simp at h; subst h; simp [hx]
    · simp at h
      have := ih r x h hx
      simp only [List.set_cons_succ, List.filter_cons]
      split <;> simp [this]
section
variable {s : ByteArray} {k n : Nat} {a : List Nat}
theorem DkI.start (s : ByteArray) : DkI s 0 (List.replicate 8 0) 0 := ⟨rfl, fun r i h => by
    rw [List.getElem?_replicate] at h
    split at h <;> simp at h, fun i h => by omega, rfl⟩
theorem DkI.n8 (h : DkI s k a n) : n ≤ 8 := by rw [h.cnt, ← h.len]; exact List.length_filter_le _ _
theorem DkI.skip (h : DkI s k a n) (hk : kdS s k ≠ 3) : DkI s (k + 1) a n :=
  ⟨h.len, fun r i e => by have := h.sound r i e; exact ⟨by omega, this.2⟩, fun i hi h3 => by
    rcases Nat.lt_or_ge i k with h4 | h4
    · exact h.full i h4 h3
    · obtain rfl : i = k := by omega
      exact absurd h3 hk, h.cnt⟩
theorem DkI.take (h : DkI s k a n) {r : Nat} (hk : kdS s k = 3) (hr : bt s k = 48 + r) (h0 : a[r]? = some 0) : DkI s (k + 1) (a.set r (k + 1)) (n + 1) := by
  have hrl : r < a.length := (List.getElem?_eq_some_iff.1 h0).1
  refine ⟨by rw [List.length_set]; exact h.len, fun r' i e => ?_, fun i hi h3 => ?_, by rw [filter_set a r (k + 1) h0 (by omega), ← h.cnt]⟩
  · by_cases hrr : r = r'
    · subst hrr
      rw [List.getElem?_set_self hrl] at e
      simp at e; subst e; exact ⟨by omega, hk, hr⟩
    · rw [List.getElem?_set_ne hrr] at e
      have := h.sound r' i e; exact ⟨by omega, this.2⟩
  · rcases Nat.lt_or_ge i k with h4 | h4
    · have h5 := h.full i h4 h3
      rw [List.getElem?_set]
      by_cases hrr : r = bt s i - 48
      · rw [← hrr] at h5; rw [h0] at h5; simp at h5
      · rw [if_neg hrr]; exact h5
    · obtain rfl : i = k := by omega
      have : bt s i - 48 = r := by omega
      rw [this, List.getElem?_set, if_pos rfl, if_pos hrl]
theorem DkI.twice (h : DkI s k a n) (hks : k < s.size) {r x : Nat} (hk : kdS s k = 3) (hr : bt s k = 48 + r) (h0 : a[r]? = some (x + 1)) : ¬ ∃ ds, DocksL s ds := by
  rintro ⟨ds, hd⟩
  obtain ⟨h1, h2, h3⟩ := h.sound r x h0
  have e1 := hd.all k hks hk
  have e2 := hd.all x (by omega) h2
  rw [h3, ← hr, e1] at e2
  simp at e2
  omega
theorem DkI.shape (h : DkI s s.size a n) {ds : List Nat} (hd : DocksL s ds) : a = ds.map (· + 1) ++ List.replicate (8 - ds.length) 0 ∧ n = ds.length := by
  have hl := hd.len
  have ha : a = ds.map (· + 1) ++ List.replicate (8 - ds.length) 0 := by
    apply List.ext_getElem?
    intro r
    rcases Nat.lt_or_ge r ds.length with h1 | h1
    · rw [List.getElem?_append_left (by simpa using h1), List.getElem?_map]
      obtain ⟨h2, h3, h4⟩ := hd.at_ r _ (List.getElem?_eq_getElem h1)
      have := h.full _ h2 h3
      rw [h4, Nat.add_sub_cancel_left] at this
      rw [this, List.getElem?_eq_getElem h1]; rfl
    · rw [List.getElem?_append_right (by simpa using h1), List.getElem?_replicate, List.length_map]
      rcases Nat.lt_or_ge r 8 with h8 | h8
      · rw [if_pos (by omega)]
        have hra : r < a.length := by rw [h.len]; exact h8
        rw [List.getElem?_eq_getElem hra]
        rcases hx : a[r] with _ | x
        · rfl
        · exfalso
          obtain ⟨q1, q2, q3⟩ := h.sound r x (by rw [List.getElem?_eq_getElem hra, hx])
          have := hd.all x q1 q2
          rw [q3, Nat.add_sub_cancel_left] at this
          have := (List.getElem?_eq_some_iff.1 this).1
          omega
      · rw [if_neg (by omega), List.getElem?_eq_none (by rw [h.len]; exact h8)]
  refine ⟨ha, ?_⟩
  rw [h.cnt, ha, List.filter_append, List.length_append]
  have e1 : (ds.map (· + 1)).filter (fun x => x != 0) = ds.map (· + 1) := by
    rw [List.filter_eq_self]
    intro x hx
    obtain ⟨y, _, rfl⟩ := List.mem_map.1 hx
    simp
  have e2 : (List.replicate (8 - ds.length) 0).filter (fun x => x != 0) = [] := by
    rw [List.filter_eq_nil_iff]
    intro x hx
    rw [(List.mem_replicate.1 hx).2]; simp
  rw [e1, e2]; simp
theorem DkI.hole (h : DkI s s.size a n) {j : Nat} (hj : j < n) (h0 : a[j]? = some 0) : ¬ ∃ ds, DocksL s ds := by
  rintro ⟨ds, hd⟩
  obtain ⟨e1, e2⟩ := h.shape hd
  rw [e1, List.getElem?_append_left (by simp; omega), List.getElem?_map, List.getElem?_eq_getElem (by omega)] at h0
  simp at h0
theorem DkI.none (h : DkI s s.size a 0) : ¬ ∃ ds, DocksL s ds := by
  rintro ⟨ds, hd⟩
  have := (h.shape hd).2
  exact hd.ne (List.eq_nil_of_length_eq_zero this.symm)
theorem DkI.docks (h : DkI s s.size a n) (h0 : 0 < n) (hall : ∀ j, j < n → a[j]? ≠ some 0) : DocksL s ((a.take n).map (· - 1)) := by
  have hn8 := h.n8
  have hla := h.len
  have hrest : ∀ r : Nat, n ≤ r → ∀ x, a[r]? ≠ some (x + 1) := by
    intro r hr x e
    have h1 : a = a.take n ++ a.drop n := (List.take_append_drop n a).symm
    have h2 : (a.take n).filter (fun x => x != 0) = a.take n := by
      rw [List.filter_eq_self]
      intro y hy
      obtain ⟨j, hj⟩ := List.getElem?_of_mem hy
      rw [List.getElem?_take] at hj
      split at hj
      · rename_i hjn
        have := hall j hjn
        rw [hj] at this
        simpa using this
      · cases hj
    have h3 := h.cnt
    rw [h1, List.filter_append, h2, List.length_append, List.length_take, Nat.min_eq_left (by omega)] at h3
    have h4 : (a.drop n).filter (fun x => x != 0) = [] := List.eq_nil_of_length_eq_zero (by omega)
    rw [List.filter_eq_nil_iff] at h4
    have h5 : x + 1 ∈ a.drop n := by
      apply List.mem_of_getElem? (i := r - n)
      rw [List.getElem?_drop, show n + (r - n) = r by omega]; exact e
    have := h4 _ h5
    simp at this
  refine ⟨fun e => ?_, fun r i e => ?_, fun i hi h3 => ?_⟩
  · have h9 : ((a.take n).map (· - 1)).length = n := by rw [List.length_map, List.length_take]; omega
    rw [e] at h9; simp at h9; omega
  · rw [List.getElem?_map, List.getElem?_take] at e
    split at e
    · rename_i hr
      have hra : r < a.length := by omega
      have hne := hall r hr
      rw [List.getElem?_eq_getElem hra] at e hne
      simp at e hne
      exact h.sound r i (by rw [List.getElem?_eq_getElem hra]; congr 1; omega)
    · simp at e
  · have e := h.full i hi h3
    have hr : bt s i - 48 < n := by
      rcases Nat.lt_or_ge (bt s i - 48) n with h4 | h4
      · exact h4
      · exact absurd e (hrest _ h4 i)
    rw [List.getElem?_map, List.getElem?_take, if_pos hr, e]; rfl
end
end Go.Proofs.YtfpikgkbccgchaaGreatDoor

namespace Go.Proofs.YtfpikgkbccgchaaGreatDoor
set_option linter.unusedVariables false
set_option linter.unusedSimpArgs false
open Go.RowKit

set_option maxRecDepth 100000 in
theorem kind_any (c : Nat) (w : World) : Calls Tryz.prog 45 #[.int .u8 (c : Int)] w fun e w' => e = .returned (.int .i64 (kindB c : Int)) ∧ w' = w := by
  obtain ⟨K, hK⟩ : ∃ K, K = kindB c := ⟨_, rfl⟩
  have HK := Lib.hid hK
  rw [← hK]
  clear hK
  by_cases h1 : c = 35
  · have e : K = 1 := by rw [HK.out]; unfold kindB; rw [if_pos h1]
    subst h1 e
    go_enter Tryz.func45, Tryz.ntmps45
    go_wp2
    go_ret
    exact ⟨rfl, rfl⟩
  · have h1b : ((c : Int) == 35) = false := by simp; omega
    by_cases h2 : 97 ≤ c
    · have h2I : (97 : Int) ≤ (c : Int) := by omega
      by_cases h3 : c ≤ 122
      · have h3I : (c : Int) ≤ 122 := by omega
        have e : K = 2 := by rw [HK.out]; unfold kindB; rw [if_neg h1, if_pos ⟨h2, h3⟩]
        subst e
        clear h1 h2 h3
        go_enter Tryz.func45, Tryz.ntmps45
        go_wp2
        go_ret
        exact ⟨rfl, rfl⟩
      · have h3I : ¬ (c : Int) ≤ 122 := by omega
        have h4I : (48 : Int) ≤ (c : Int) := by omega
        have h5I : ¬ (c : Int) < 56 := by omega
        have e : K = 0 := by rw [HK.out]; unfold kindB; rw [if_neg h1, if_neg (by omega), if_neg (by omega)]
        subst e
        clear h1 h2 h3
        go_enter Tryz.func45, Tryz.ntmps45
        go_wp2
        go_ret
        exact ⟨rfl, rfl⟩
    · have h2I : ¬ (97 : Int) ≤ (c : Int) := by omega
      by_cases h4 : 48 ≤ c
      · have h4I : (48 : Int) ≤ (c : Int) := by omega
        by_cases h5 : c < 56
        · have h5I : (c : Int) < 56 := by omega
          have e : K = 3 := by rw [HK.out]; unfold kindB; rw [if_neg h1, if_neg (by omega), if_pos ⟨h4, h5⟩]
          subst e
          clear h1 h2 h4 h5
          go_enter Tryz.func45, Tryz.ntmps45
          go_wp2
          go_ret
          exact ⟨rfl, rfl⟩
        · have h5I : ¬ (c : Int) < 56 := by omega
          have e : K = 0 := by rw [HK.out]; unfold kindB; rw [if_neg h1, if_neg (by omega), if_neg (by omega)]
          subst e
          clear h1 h2 h4 h5
          go_enter Tryz.func45, Tryz.ntmps45
          go_wp2
          go_ret
          exact ⟨rfl, rfl⟩
      · have h4I : ¬ (48 : Int) ≤ (c : Int) := by omega
        have e : K = 0 := by rw [HK.out]; unfold kindB; rw [if_neg h1, if_neg (by omega), if_neg (by omega)]
        subst e
        clear h1 h2 h4
        go_enter Tryz.func45, Tryz.ntmps45
        go_wp2
        go_ret
        exact ⟨rfl, rfl⟩
end Go.Proofs.YtfpikgkbccgchaaGreatDoor

namespace Go.Proofs.YtfpikgkbccgchaaGreatDoor
set_option linter.unusedVariables false
set_option linter.unusedSimpArgs false
open Go.RowKit

theorem dir_0 (w : World) : (Instr.index 183 (.agg #[.int .i64 0, .int .i64 (-1), .int .i64 1, .int .i64 0, .int .i64 0, .int .i64 1, .int .i64 (-1), .int .i64 0]) (.int .i64 0)).run Tryz.prog w = .ok (.agg #[.int .i64 0, .int .i64 (-1)]) w := by kernel_rfl
theorem dir_1 (w : World) : (Instr.index 183 (.agg #[.int .i64 0, .int .i64 (-1), .int .i64 1, .int .i64 0, .int .i64 0, .int .i64 1, .int .i64 (-1), .int .i64 0]) (.int .i64 1)).run Tryz.prog w = .ok (.agg #[.int .i64 1, .int .i64 0]) w := by kernel_rfl
theorem dir_2 (w : World) : (Instr.index 183 (.agg #[.int .i64 0, .int .i64 (-1), .int .i64 1, .int .i64 0, .int .i64 0, .int .i64 1, .int .i64 (-1), .int .i64 0]) (.int .i64 2)).run Tryz.prog w = .ok (.agg #[.int .i64 0, .int .i64 1]) w := by kernel_rfl
theorem dir_3 (w : World) : (Instr.index 183 (.agg #[.int .i64 0, .int .i64 (-1), .int .i64 1, .int .i64 0, .int .i64 0, .int .i64 1, .int .i64 (-1), .int .i64 0]) (.int .i64 3)).run Tryz.prog w = .ok (.agg #[.int .i64 (-1), .int .i64 0]) w := by kernel_rfl

def BsI (W H c : Nat) (f : ByteArray) (bf : Nat) (w0 : World) (v : Value) (k : Nat) (w : World) : Prop := w.heap[bf]? = some (.cells #[.int .i64 (W : Int), .int .i64 (H : Int), .string f] 23 (0, 0)) ∧ NewS IK 3 w0 w v (ints (bsA W H c k))

set_option maxHeartbeats 1000000 in
set_option maxRecDepth 100000 in
theorem beside_any (W H c : Nat) (s : ByteArray) (hW1 : 1 ≤ W) (hW : W ≤ 16) (hH1 : 1 ≤ H) (hH : H ≤ 16) (hc : c < W * H) (w : World) :
    Calls Tryz.prog 75 #[(Flr.mk W H s).val, .int .i64 (c : Int)] w fun e w' => ∃ v, e = .returned v ∧ NewS IK 3 w w' v (ints (besideP W H c)) := by
  unfold Flr.val
  obtain ⟨x, hx⟩ : ∃ x, x = c % W := ⟨_, rfl⟩
  obtain ⟨y, hy⟩ : ∃ y, y = c / W := ⟨_, rfl⟩
  have hxW : x < W := by rw [hx]; exact Nat.mod_lt _ hW1
  have hyH : y < H := by rw [hy]; exact Nat.div_lt_of_lt_mul hc
  have hcy : W * y + x = c := by rw [hx, hy]; exact Nat.div_add_mod c W
  have hc256 : c < 256 := Nat.lt_of_lt_of_le hc (Nat.mul_le_mul hW hH)
  have hxI : (c : Int).tmod (W : Int) = (x : Int) := by rw [Int.tmod_eq_emod_of_nonneg (by omega), hx]; rfl
  have hyI : (c : Int).tdiv (W : Int) = (y : Int) := by rw [Int.tdiv_eq_ediv_of_nonneg (by omega), hy]; rfl
  have hyW : IntKind.i64.wrap (y : Int) = (y : Int) := IntWalk.i64_in _ (by omega)
  have hW0 : (W : Int) ≠ 0 := by omega
  have hW0b : ((W : Int) == 0) = false := by simp; omega
  have HX := Lib.hid hx; have HY := Lib.hid hy; have HCY := Lib.hid hcy
  clear hx hy hcy hc
  go_enter Tryz.func75, Tryz.ntmps75
  go_wp2_with (go_quiet (fail))
  obtain ⟨bf, hbf⟩ : ∃ bf, bf = w.heap.size := ⟨_, rfl⟩
  obtain ⟨w0, hw0⟩ : ∃ w0, w0 = (w.alloc (.cells #[.int .i64 (W : Int), .int .i64 (H : Int), .string s] 23)).drewN nq := ⟨_, rfl⟩
  have K0 := Lib.hid (show Kp No w w0 by rw [hw0]; exact ((Kp.refl _ _).alloc _).drewN _)
  have B0 := Lib.hid (show w0.heap[bf]? = some (.cells #[.int .i64 (W : Int), .int .i64 (H : Int), .string s] 23 (0, 0)) by rw [hw0, hbf]; exact blk_new w _)
  rw [← hbf, ← hw0]
  go_loopg [7, 25] 5 (fun g2 v kk wr => ∃ k : Nat, g2 = 5 - k ∧ kk = .int .i64 k ∧ k ≤ 4 ∧ BsI W H c s bf w0 v k wr)
  case atStart => exact ⟨0, rfl, rfl, by omega, B0.out, NewS.nil _ _ _⟩
  case round =>
    obtain ⟨k, hgk, rfl, hk, hb, hv⟩ := hrel
    have hv2 := bsA_len W H c k
    obtain ⟨A, q, rfl⟩ := hv.own.rd.shape
    have HB := Lib.hid hb; have HV := Lib.hid hv
    have hb0 : wr.cell? ⟨bf, 0, none⟩ = some (.int .i64 (W : Int)) := blk_cell hb 0
    have hb1 : wr.cell? ⟨bf, 1, none⟩ = some (.int .i64 (H : Int)) := blk_cell hb 1
    have hn : (ints (bsA W H c k)).length ≤ 4 := by rw [ints_len]; omega
    clear hb hv hv2 hW0 hW0b hxI hyI hyW hbf hw0
    obtain rfl | rfl | rfl | rfl | rfl : k = 0 ∨ k = 1 ∨ k = 2 ∨ k = 3 ∨ k = 4 := by omega
    · have HA := Lib.hid (bsA_succ W H c 0)
      by_cases hd : 0 < y
      · obtain ⟨p, hp⟩ : ∃ p, p = x := ⟨_, rfl⟩
        obtain ⟨q1, hq⟩ : ∃ q1, q1 = y - 1 := ⟨_, rfl⟩
        have hwx : IntKind.i64.wrap ((x : Int)) = (p : Int) := by rw [IntWalk.i64_in _ (by omega)]; omega
        have hwy : IntKind.i64.wrap ((y : Int) + (-1)) = (q1 : Int) := by rw [IntWalk.i64_in _ (by omega)]; omega
        have hp0 : (0 : Int) ≤ (p : Int) := by omega
        have hpW : (p : Int) < (W : Int) := by omega
        have hq0 : (0 : Int) ≤ (q1 : Int) := by omega
        have hqH : (q1 : Int) < (H : Int) := by omega
        obtain ⟨vv, hvv⟩ : ∃ vv, vv = c - W := ⟨_, rfl⟩
        have hval : q1 * W + p = vv := by
          rw [hvv]
          have := HCY.out
          rw [Nat.mul_comm] at this
          have hle : 1 * W ≤ y * W := Nat.mul_le_mul_right W hd
          rw [hq, hp, Nat.sub_mul]; omega
        obtain ⟨m, hm⟩ : ∃ m, m = q1 * W := ⟨_, rfl⟩
        have hz1 : IntKind.i64.wrap ((q1 : Int) * (W : Int)) = (m : Int) := by rw [← Int.natCast_mul, ← hm, IntWalk.i64_in _ (by omega)]
        have hz2 : IntKind.i64.wrap ((m : Int) + (p : Int)) = (vv : Int) := by rw [IntWalk.i64_in _ (by omega)]; omega
        have HD := Lib.hid (show bsPart W H c 0 = [vv] by unfold bsPart; rw [← HX.out, ← HY.out, hvv] ; simp; omega)
        clear hp hq hd hval hm hvv
        have hix := dir_0
        go_wp2_with fail
        obtain ⟨wd, hwd⟩ : ∃ wd, wd = wr.alloc (.cells #[.int .i64 (0), .int .i64 (-1)] 182) := ⟨_, rfl⟩
        obtain ⟨bd, hbd⟩ : ∃ bd, bd = wr.heap.size := ⟨_, rfl⟩
        have e0 : wd.cell? ⟨bd, 0, none⟩ = some (.int .i64 (0)) := by rw [hwd, hbd]; exact blk_cell (blk_new wr _) 0
        have e1 : wd.cell? ⟨bd, 1, none⟩ = some (.int .i64 (-1)) := by rw [hwd, hbd]; exact blk_cell (blk_new wr _) 1
        have HBD := Lib.hid (show wd.heap[bf]? = some (.cells #[.int .i64 (W : Int), .int .i64 (H : Int), .string s] 23 (0, 0)) by rw [hwd]; exact blk_alloc HB.out _)
        have HVD := Lib.hid (show NewS IK 3 w0 wd _ _ by rw [hwd]; exact HV.out.alloc _)
        have b0 : wd.cell? ⟨bf, 0, none⟩ = some (.int .i64 (W : Int)) := blk_cell HBD.out 0
        have b1 : wd.cell? ⟨bf, 1, none⟩ = some (.int .i64 (H : Int)) := blk_cell HBD.out 1
        rw [← hwd, ← hbd]
        clear hwd hbd hb0 hb1 hix
        go_wp2_with (first | (at_builtin; refine wpl_append elI rfl (.tmp 54) (.tmp 61) rfl rfl rfl (l := ints (bsA W H c 0)) (m := [(vv : Int)]) ?c1 ?c2 ?c3 ?c4 ?c5) | go_quiet (fail))
        case c1 => exact (HVD.out.own.drewN _).alloc _
        case c2 => exact Rd.litAt IK 3 _ _ [(vv : Int)] rfl (by unfold maxLen; simp) _ _ rfl rfl
        case c3 => show (ints (bsA W H c 0)).length + 1 ≤ maxLen; unfold maxLen; omega
        case c4 => show ((ints (bsA W H c 0)).length + 1) * 8 ≤ _; omega
        case c5 =>
          intro v' w' k1 k2 k3
          have q := NewS.app2 k1 k2 k3 (((Kp.refl No wd).drewN _).alloc _) HVD.out (Nat.le_succ _)
          have hb2 := k2.blk (blk_alloc HBD.out _) (fun e => by have := HVD.out.ge _ e; have := lt_of_block B0.out; omega)
          have hE : ints (bsA W H c 0) ++ [(vv : Int)] = ints (bsA W H c (0 + 1)) := by rw [HA.out, HD.out, ints_app]; rfl
          rw [hE] at q
          obtain ⟨A5, c5, rfl⟩ := q.own.rd.shape
          have Q := Lib.hid q; have HB2 := Lib.hid hb2
          clear q k1 k2 k3 hb2 hE b0 b1 e0 e1
          go_wp2
          go_roundg (5 - (0 + 1))
          case measure => omega
          case rel => exact ⟨0 + 1, rfl, by go_num, by omega, HB2.out, Q.out⟩

      · have hwx : IntKind.i64.wrap (x : Int) = (x : Int) := IntWalk.i64_in _ (by omega)
        obtain rfl : y = 0 := by omega
        have hp0 : (0 : Int) ≤ (x : Int) := by omega
        have hpW : (x : Int) < (W : Int) := by omega
        have hwy : IntKind.i64.wrap (((0 : Nat) : Int) + (-1)) = -1 := by decide
        have HD := Lib.hid (show bsPart W H c 0 = [] by unfold bsPart; rw [← HX.out, ← HY.out] ; simp)
        clear hd
        have hix := dir_0
        go_wp2_with fail
        obtain ⟨wd, hwd⟩ : ∃ wd, wd = wr.alloc (.cells #[.int .i64 (0), .int .i64 (-1)] 182) := ⟨_, rfl⟩
        obtain ⟨bd, hbd⟩ : ∃ bd, bd = wr.heap.size := ⟨_, rfl⟩
        have e0 : wd.cell? ⟨bd, 0, none⟩ = some (.int .i64 (0)) := by rw [hwd, hbd]; exact blk_cell (blk_new wr _) 0
        have e1 : wd.cell? ⟨bd, 1, none⟩ = some (.int .i64 (-1)) := by rw [hwd, hbd]; exact blk_cell (blk_new wr _) 1
        have HBD := Lib.hid (show wd.heap[bf]? = some (.cells #[.int .i64 (W : Int), .int .i64 (H : Int), .string s] 23 (0, 0)) by rw [hwd]; exact blk_alloc HB.out _)
        have HVD := Lib.hid (show NewS IK 3 w0 wd _ _ by rw [hwd]; exact HV.out.alloc _)
        have b0 : wd.cell? ⟨bf, 0, none⟩ = some (.int .i64 (W : Int)) := blk_cell HBD.out 0
        have b1 : wd.cell? ⟨bf, 1, none⟩ = some (.int .i64 (H : Int)) := blk_cell HBD.out 1
        rw [← hwd, ← hbd]
        clear hwd hbd hb0 hb1 hix
        have HVE := Lib.hid (show NewS IK 3 w0 wd _ (ints (bsA W H c (0 + 1))) by rw [HA.out, HD.out, List.append_nil]; exact HVD.out)
        have hlen : (ints (bsA W H c 0)).length = (ints (bsA W H c (0 + 1))).length := by rw [HA.out, HD.out, List.append_nil]
        have HLN := Lib.hid hlen
        clear hlen
        go_wp2_with (go_quiet (fail))
        rw [HLN.out]
        go_roundg (5 - (0 + 1))
        case measure => omega
        case rel => exact ⟨0 + 1, rfl, by go_num, by omega, HBD.out, by rw [← HLN.out]; exact HVE.out.kpNo ((Kp.refl _ _).drewN _)⟩
    · have HA := Lib.hid (bsA_succ W H c 1)
      by_cases hd : x + 1 < W
      · obtain ⟨p, hp⟩ : ∃ p, p = x + 1 := ⟨_, rfl⟩
        obtain ⟨q1, hq⟩ : ∃ q1, q1 = y := ⟨_, rfl⟩
        have hwx : IntKind.i64.wrap ((x : Int) + (1)) = (p : Int) := by rw [IntWalk.i64_in _ (by omega)]; omega
        have hwy : IntKind.i64.wrap ((y : Int)) = (q1 : Int) := by rw [IntWalk.i64_in _ (by omega)]; omega
        have hp0 : (0 : Int) ≤ (p : Int) := by omega
        have hpW : (p : Int) < (W : Int) := by omega
        have hq0 : (0 : Int) ≤ (q1 : Int) := by omega
        have hqH : (q1 : Int) < (H : Int) := by omega
        obtain ⟨vv, hvv⟩ : ∃ vv, vv = c + 1 := ⟨_, rfl⟩
        have hval : q1 * W + p = vv := by
          rw [hvv]
          have := HCY.out
          rw [Nat.mul_comm] at this
          rw [hq, hp]; omega
        obtain ⟨m, hm⟩ : ∃ m, m = q1 * W := ⟨_, rfl⟩
        have hz1 : IntKind.i64.wrap ((q1 : Int) * (W : Int)) = (m : Int) := by rw [← Int.natCast_mul, ← hm, IntWalk.i64_in _ (by omega)]
        have hz2 : IntKind.i64.wrap ((m : Int) + (p : Int)) = (vv : Int) := by rw [IntWalk.i64_in _ (by omega)]; omega
        have HD := Lib.hid (show bsPart W H c 1 = [vv] by unfold bsPart; rw [← HX.out, ← HY.out, hvv] ; simp; omega)
        clear hp hq hd hval hm hvv
        have hix := dir_1
        go_wp2_with fail
        obtain ⟨wd, hwd⟩ : ∃ wd, wd = wr.alloc (.cells #[.int .i64 (1), .int .i64 (0)] 182) := ⟨_, rfl⟩
        obtain ⟨bd, hbd⟩ : ∃ bd, bd = wr.heap.size := ⟨_, rfl⟩
        have e0 : wd.cell? ⟨bd, 0, none⟩ = some (.int .i64 (1)) := by rw [hwd, hbd]; exact blk_cell (blk_new wr _) 0
        have e1 : wd.cell? ⟨bd, 1, none⟩ = some (.int .i64 (0)) := by rw [hwd, hbd]; exact blk_cell (blk_new wr _) 1
        have HBD := Lib.hid (show wd.heap[bf]? = some (.cells #[.int .i64 (W : Int), .int .i64 (H : Int), .string s] 23 (0, 0)) by rw [hwd]; exact blk_alloc HB.out _)
        have HVD := Lib.hid (show NewS IK 3 w0 wd _ _ by rw [hwd]; exact HV.out.alloc _)
        have b0 : wd.cell? ⟨bf, 0, none⟩ = some (.int .i64 (W : Int)) := blk_cell HBD.out 0
        have b1 : wd.cell? ⟨bf, 1, none⟩ = some (.int .i64 (H : Int)) := blk_cell HBD.out 1
        rw [← hwd, ← hbd]
        clear hwd hbd hb0 hb1 hix
        go_wp2_with (first | (at_builtin; refine wpl_append elI rfl (.tmp 54) (.tmp 61) rfl rfl rfl (l := ints (bsA W H c 1)) (m := [(vv : Int)]) ?c1 ?c2 ?c3 ?c4 ?c5) | go_quiet (fail))
        case c1 => exact (HVD.out.own.drewN _).alloc _
        case c2 => exact Rd.litAt IK 3 _ _ [(vv : Int)] rfl (by unfold maxLen; simp) _ _ rfl rfl
        case c3 => show (ints (bsA W H c 1)).length + 1 ≤ maxLen; unfold maxLen; omega
        case c4 => show ((ints (bsA W H c 1)).length + 1) * 8 ≤ _; omega
        case c5 =>
          intro v' w' k1 k2 k3
          have q := NewS.app2 k1 k2 k3 (((Kp.refl No wd).drewN _).alloc _) HVD.out (Nat.le_succ _)
          have hb2 := k2.blk (blk_alloc HBD.out _) (fun e => by have := HVD.out.ge _ e; have := lt_of_block B0.out; omega)
          have hE : ints (bsA W H c 1) ++ [(vv : Int)] = ints (bsA W H c (1 + 1)) := by rw [HA.out, HD.out, ints_app]; rfl
          rw [hE] at q
          obtain ⟨A5, c5, rfl⟩ := q.own.rd.shape
          have Q := Lib.hid q; have HB2 := Lib.hid hb2
          clear q k1 k2 k3 hb2 hE b0 b1 e0 e1
          go_wp2
          go_roundg (5 - (1 + 1))
          case measure => omega
          case rel => exact ⟨1 + 1, rfl, by go_num, by omega, HB2.out, Q.out⟩

      · have hwx : IntKind.i64.wrap ((x : Int) + 1) = (x : Int) + 1 := IntWalk.i64_in _ (by omega)
        have hwy : IntKind.i64.wrap (y : Int) = (y : Int) := IntWalk.i64_in _ (by omega)
        have hp0 : (0 : Int) ≤ (x : Int) + 1 := by omega
        have hpW : ¬ (x : Int) + 1 < (W : Int) := by omega
        have HD := Lib.hid (show bsPart W H c 1 = [] by unfold bsPart; rw [← HX.out, ← HY.out] ; simp; omega)
        clear hd
        have hix := dir_1
        go_wp2_with fail
        obtain ⟨wd, hwd⟩ : ∃ wd, wd = wr.alloc (.cells #[.int .i64 (1), .int .i64 (0)] 182) := ⟨_, rfl⟩
        obtain ⟨bd, hbd⟩ : ∃ bd, bd = wr.heap.size := ⟨_, rfl⟩
        have e0 : wd.cell? ⟨bd, 0, none⟩ = some (.int .i64 (1)) := by rw [hwd, hbd]; exact blk_cell (blk_new wr _) 0
        have e1 : wd.cell? ⟨bd, 1, none⟩ = some (.int .i64 (0)) := by rw [hwd, hbd]; exact blk_cell (blk_new wr _) 1
        have HBD := Lib.hid (show wd.heap[bf]? = some (.cells #[.int .i64 (W : Int), .int .i64 (H : Int), .string s] 23 (0, 0)) by rw [hwd]; exact blk_alloc HB.out _)
        have HVD := Lib.hid (show NewS IK 3 w0 wd _ _ by rw [hwd]; exact HV.out.alloc _)
        have b0 : wd.cell? ⟨bf, 0, none⟩ = some (.int .i64 (W : Int)) := blk_cell HBD.out 0
        have b1 : wd.cell? ⟨bf, 1, none⟩ = some (.int .i64 (H : Int)) := blk_cell HBD.out 1
        rw [← hwd, ← hbd]
        clear hwd hbd hb0 hb1 hix
        have HVE := Lib.hid (show NewS IK 3 w0 wd _ (ints (bsA W H c (1 + 1))) by rw [HA.out, HD.out, List.append_nil]; exact HVD.out)
        have hlen : (ints (bsA W H c 1)).length = (ints (bsA W H c (1 + 1))).length := by rw [HA.out, HD.out, List.append_nil]
        have HLN := Lib.hid hlen
        clear hlen
        go_wp2_with (go_quiet (fail))
        rw [HLN.out]
        go_roundg (5 - (1 + 1))
        case measure => omega
        case rel => exact ⟨1 + 1, rfl, by go_num, by omega, HBD.out, by rw [← HLN.out]; exact HVE.out.kpNo ((Kp.refl _ _).drewN _)⟩
    · have HA := Lib.hid (bsA_succ W H c 2)
      by_cases hd : y + 1 < H
      · obtain ⟨p, hp⟩ : ∃ p, p = x := ⟨_, rfl⟩
        obtain ⟨q1, hq⟩ : ∃ q1, q1 = y + 1 := ⟨_, rfl⟩
        have hwx : IntKind.i64.wrap ((x : Int)) = (p : Int) := by rw [IntWalk.i64_in _ (by omega)]; omega
        have hwy : IntKind.i64.wrap ((y : Int) + (1)) = (q1 : Int) := by rw [IntWalk.i64_in _ (by omega)]; omega
        have hp0 : (0 : Int) ≤ (p : Int) := by omega
        have hpW : (p : Int) < (W : Int) := by omega
        have hq0 : (0 : Int) ≤ (q1 : Int) := by omega
        have hqH : (q1 : Int) < (H : Int) := by omega
        obtain ⟨vv, hvv⟩ : ∃ vv, vv = c + W := ⟨_, rfl⟩
        have hval : q1 * W + p = vv := by
          rw [hvv]
          have := HCY.out
          rw [Nat.mul_comm] at this
          rw [hq, hp, Nat.add_mul]; omega
        obtain ⟨m, hm⟩ : ∃ m, m = q1 * W := ⟨_, rfl⟩
        have hz1 : IntKind.i64.wrap ((q1 : Int) * (W : Int)) = (m : Int) := by rw [← Int.natCast_mul, ← hm, IntWalk.i64_in _ (by omega)]
        have hz2 : IntKind.i64.wrap ((m : Int) + (p : Int)) = (vv : Int) := by rw [IntWalk.i64_in _ (by omega)]; omega
        have HD := Lib.hid (show bsPart W H c 2 = [vv] by unfold bsPart; rw [← HX.out, ← HY.out, hvv] ; simp; omega)
        clear hp hq hd hval hm hvv
        have hix := dir_2
        go_wp2_with fail
        obtain ⟨wd, hwd⟩ : ∃ wd, wd = wr.alloc (.cells #[.int .i64 (0), .int .i64 (1)] 182) := ⟨_, rfl⟩
        obtain ⟨bd, hbd⟩ : ∃ bd, bd = wr.heap.size := ⟨_, rfl⟩
        have e0 : wd.cell? ⟨bd, 0, none⟩ = some (.int .i64 (0)) := by rw [hwd, hbd]; exact blk_cell (blk_new wr _) 0
        have e1 : wd.cell? ⟨bd, 1, none⟩ = some (.int .i64 (1)) := by rw [hwd, hbd]; exact blk_cell (blk_new wr _) 1
        have HBD := Lib.hid (show wd.heap[bf]? = some (.cells #[.int .i64 (W : Int), .int .i64 (H : Int), .string s] 23 (0, 0)) by rw [hwd]; exact blk_alloc HB.out _)
        have HVD := Lib.hid (show NewS IK 3 w0 wd _ _ by rw [hwd]; exact HV.out.alloc _)
        have b0 : wd.cell? ⟨bf, 0, none⟩ = some (.int .i64 (W : Int)) := blk_cell HBD.out 0
        have b1 : wd.cell? ⟨bf, 1, none⟩ = some (.int .i64 (H : Int)) := blk_cell HBD.out 1
        rw [← hwd, ← hbd]
        clear hwd hbd hb0 hb1 hix
        go_wp2_with (first | (at_builtin; refine wpl_append elI rfl (.tmp 54) (.tmp 61) rfl rfl rfl (l := ints (bsA W H c 2)) (m := [(vv : Int)]) ?c1 ?c2 ?c3 ?c4 ?c5) | go_quiet (fail))
        case c1 => exact (HVD.out.own.drewN _).alloc _
        case c2 => exact Rd.litAt IK 3 _ _ [(vv : Int)] rfl (by unfold maxLen; simp) _ _ rfl rfl
        case c3 => show (ints (bsA W H c 2)).length + 1 ≤ maxLen; unfold maxLen; omega
        case c4 => show ((ints (bsA W H c 2)).length + 1) * 8 ≤ _; omega
        case c5 =>
          intro v' w' k1 k2 k3
          have q := NewS.app2 k1 k2 k3 (((Kp.refl No wd).drewN _).alloc _) HVD.out (Nat.le_succ _)
          have hb2 := k2.blk (blk_alloc HBD.out _) (fun e => by have := HVD.out.ge _ e; have := lt_of_block B0.out; omega)
          have hE : ints (bsA W H c 2) ++ [(vv : Int)] = ints (bsA W H c (2 + 1)) := by rw [HA.out, HD.out, ints_app]; rfl
          rw [hE] at q
          obtain ⟨A5, c5, rfl⟩ := q.own.rd.shape
          have Q := Lib.hid q; have HB2 := Lib.hid hb2
          clear q k1 k2 k3 hb2 hE b0 b1 e0 e1
          go_wp2
          go_roundg (5 - (2 + 1))
          case measure => omega
          case rel => exact ⟨2 + 1, rfl, by go_num, by omega, HB2.out, Q.out⟩

      · have hwx : IntKind.i64.wrap (x : Int) = (x : Int) := IntWalk.i64_in _ (by omega)
        have hwy : IntKind.i64.wrap ((y : Int) + 1) = (y : Int) + 1 := IntWalk.i64_in _ (by omega)
        have hp0 : (0 : Int) ≤ (x : Int) := by omega
        have hpW : (x : Int) < (W : Int) := by omega
        have hq0 : (0 : Int) ≤ (y : Int) + 1 := by omega
        have hqH : ¬ (y : Int) + 1 < (H : Int) := by omega
        have HD := Lib.hid (show bsPart W H c 2 = [] by unfold bsPart; rw [← HX.out, ← HY.out] ; simp; omega)
        clear hd
        have hix := dir_2
        go_wp2_with fail
        obtain ⟨wd, hwd⟩ : ∃ wd, wd = wr.alloc (.cells #[.int .i64 (0), .int .i64 (1)] 182) := ⟨_, rfl⟩
        obtain ⟨bd, hbd⟩ : ∃ bd, bd = wr.heap.size := ⟨_, rfl⟩
        have e0 : wd.cell? ⟨bd, 0, none⟩ = some (.int .i64 (0)) := by rw [hwd, hbd]; exact blk_cell (blk_new wr _) 0
        have e1 : wd.cell? ⟨bd, 1, none⟩ = some (.int .i64 (1)) := by rw [hwd, hbd]; exact blk_cell (blk_new wr _) 1
        have HBD := Lib.hid (show wd.heap[bf]? = some (.cells #[.int .i64 (W : Int), .int .i64 (H : Int), .string s] 23 (0, 0)) by rw [hwd]; exact blk_alloc HB.out _)
        have HVD := Lib.hid (show NewS IK 3 w0 wd _ _ by rw [hwd]; exact HV.out.alloc _)
        have b0 : wd.cell? ⟨bf, 0, none⟩ = some (.int .i64 (W : Int)) := blk_cell HBD.out 0
        have b1 : wd.cell? ⟨bf, 1, none⟩ = some (.int .i64 (H : Int)) := blk_cell HBD.out 1
        rw [← hwd, ← hbd]
        clear hwd hbd hb0 hb1 hix
        have HVE := Lib.hid (show NewS IK 3 w0 wd _ (ints (bsA W H c (2 + 1))) by rw [HA.out, HD.out, List.append_nil]; exact HVD.out)
        have hlen : (ints (bsA W H c 2)).length = (ints (bsA W H c (2 + 1))).length := by rw [HA.out, HD.out, List.append_nil]
        have HLN := Lib.hid hlen
        clear hlen
        go_wp2_with (go_quiet (fail))
        rw [HLN.out]
        go_roundg (5 - (2 + 1))
        case measure => omega
        case rel => exact ⟨2 + 1, rfl, by go_num, by omega, HBD.out, by rw [← HLN.out]; exact HVE.out.kpNo ((Kp.refl _ _).drewN _)⟩
    · have HA := Lib.hid (bsA_succ W H c 3)
      by_cases hd : 0 < x
      · obtain ⟨p, hp⟩ : ∃ p, p = x - 1 := ⟨_, rfl⟩
        obtain ⟨q1, hq⟩ : ∃ q1, q1 = y := ⟨_, rfl⟩
        have hwx : IntKind.i64.wrap ((x : Int) + (-1)) = (p : Int) := by rw [IntWalk.i64_in _ (by omega)]; omega
        have hwy : IntKind.i64.wrap ((y : Int)) = (q1 : Int) := by rw [IntWalk.i64_in _ (by omega)]; omega
        have hp0 : (0 : Int) ≤ (p : Int) := by omega
        have hpW : (p : Int) < (W : Int) := by omega
        have hq0 : (0 : Int) ≤ (q1 : Int) := by omega
        have hqH : (q1 : Int) < (H : Int) := by omega
        obtain ⟨vv, hvv⟩ : ∃ vv, vv = c - 1 := ⟨_, rfl⟩
        have hval : q1 * W + p = vv := by
          rw [hvv]
          have := HCY.out
          rw [Nat.mul_comm] at this
          rw [hq, hp]; omega
        obtain ⟨m, hm⟩ : ∃ m, m = q1 * W := ⟨_, rfl⟩
        have hz1 : IntKind.i64.wrap ((q1 : Int) * (W : Int)) = (m : Int) := by rw [← Int.natCast_mul, ← hm, IntWalk.i64_in _ (by omega)]
        have hz2 : IntKind.i64.wrap ((m : Int) + (p : Int)) = (vv : Int) := by rw [IntWalk.i64_in _ (by omega)]; omega
        have HD := Lib.hid (show bsPart W H c 3 = [vv] by unfold bsPart; rw [← HX.out, ← HY.out, hvv] ; simp; omega)
        clear hp hq hd hval hm hvv
        have hix := dir_3
        go_wp2_with fail
        obtain ⟨wd, hwd⟩ : ∃ wd, wd = wr.alloc (.cells #[.int .i64 (-1), .int .i64 (0)] 182) := ⟨_, rfl⟩
        obtain ⟨bd, hbd⟩ : ∃ bd, bd = wr.heap.size := ⟨_, rfl⟩
        have e0 : wd.cell? ⟨bd, 0, none⟩ = some (.int .i64 (-1)) := by rw [hwd, hbd]; exact blk_cell (blk_new wr _) 0
        have e1 : wd.cell? ⟨bd, 1, none⟩ = some (.int .i64 (0)) := by rw [hwd, hbd]; exact blk_cell (blk_new wr _) 1
        have HBD := Lib.hid (show wd.heap[bf]? = some (.cells #[.int .i64 (W : Int), .int .i64 (H : Int), .string s] 23 (0, 0)) by rw [hwd]; exact blk_alloc HB.out _)
        have HVD := Lib.hid (show NewS IK 3 w0 wd _ _ by rw [hwd]; exact HV.out.alloc _)
        have b0 : wd.cell? ⟨bf, 0, none⟩ = some (.int .i64 (W : Int)) := blk_cell HBD.out 0
        have b1 : wd.cell? ⟨bf, 1, none⟩ = some (.int .i64 (H : Int)) := blk_cell HBD.out 1
        rw [← hwd, ← hbd]
        clear hwd hbd hb0 hb1 hix
        go_wp2_with (first | (at_builtin; refine wpl_append elI rfl (.tmp 54) (.tmp 61) rfl rfl rfl (l := ints (bsA W H c 3)) (m := [(vv : Int)]) ?c1 ?c2 ?c3 ?c4 ?c5) | go_quiet (fail))
        case c1 => exact (HVD.out.own.drewN _).alloc _
        case c2 => exact Rd.litAt IK 3 _ _ [(vv : Int)] rfl (by unfold maxLen; simp) _ _ rfl rfl
        case c3 => show (ints (bsA W H c 3)).length + 1 ≤ maxLen; unfold maxLen; omega
        case c4 => show ((ints (bsA W H c 3)).length + 1) * 8 ≤ _; omega
        case c5 =>
          intro v' w' k1 k2 k3
          have q := NewS.app2 k1 k2 k3 (((Kp.refl No wd).drewN _).alloc _) HVD.out (Nat.le_succ _)
          have hb2 := k2.blk (blk_alloc HBD.out _) (fun e => by have := HVD.out.ge _ e; have := lt_of_block B0.out; omega)
          have hE : ints (bsA W H c 3) ++ [(vv : Int)] = ints (bsA W H c (3 + 1)) := by rw [HA.out, HD.out, ints_app]; rfl
          rw [hE] at q
          obtain ⟨A5, c5, rfl⟩ := q.own.rd.shape
          have Q := Lib.hid q; have HB2 := Lib.hid hb2
          clear q k1 k2 k3 hb2 hE b0 b1 e0 e1
          go_wp2
          go_roundg (5 - (3 + 1))
          case measure => omega
          case rel => exact ⟨3 + 1, rfl, by go_num, by omega, HB2.out, Q.out⟩

      · obtain rfl : x = 0 := by omega
        have hwx : IntKind.i64.wrap (((0 : Nat) : Int) + (-1)) = -1 := by decide
        have hwy : IntKind.i64.wrap (y : Int) = (y : Int) := IntWalk.i64_in _ (by omega)
        have HD := Lib.hid (show bsPart W H c 3 = [] by unfold bsPart; rw [← HX.out, ← HY.out] ; simp)
        clear hd
        have hix := dir_3
        go_wp2_with fail
        obtain ⟨wd, hwd⟩ : ∃ wd, wd = wr.alloc (.cells #[.int .i64 (-1), .int .i64 (0)] 182) := ⟨_, rfl⟩
        obtain ⟨bd, hbd⟩ : ∃ bd, bd = wr.heap.size := ⟨_, rfl⟩
        have e0 : wd.cell? ⟨bd, 0, none⟩ = some (.int .i64 (-1)) := by rw [hwd, hbd]; exact blk_cell (blk_new wr _) 0
        have e1 : wd.cell? ⟨bd, 1, none⟩ = some (.int .i64 (0)) := by rw [hwd, hbd]; exact blk_cell (blk_new wr _) 1
        have HBD := Lib.hid (show wd.heap[bf]? = some (.cells #[.int .i64 (W : Int), .int .i64 (H : Int), .string s] 23 (0, 0)) by rw [hwd]; exact blk_alloc HB.out _)
        have HVD := Lib.hid (show NewS IK 3 w0 wd _ _ by rw [hwd]; exact HV.out.alloc _)
        have b0 : wd.cell? ⟨bf, 0, none⟩ = some (.int .i64 (W : Int)) := blk_cell HBD.out 0
        have b1 : wd.cell? ⟨bf, 1, none⟩ = some (.int .i64 (H : Int)) := blk_cell HBD.out 1
        rw [← hwd, ← hbd]
        clear hwd hbd hb0 hb1 hix
        have HVE := Lib.hid (show NewS IK 3 w0 wd _ (ints (bsA W H c (3 + 1))) by rw [HA.out, HD.out, List.append_nil]; exact HVD.out)
        have hlen : (ints (bsA W H c 3)).length = (ints (bsA W H c (3 + 1))).length := by rw [HA.out, HD.out, List.append_nil]
        have HLN := Lib.hid hlen
        clear hlen
        go_wp2_with (go_quiet (fail))
        rw [HLN.out]
        go_roundg (5 - (3 + 1))
        case measure => omega
        case rel => exact ⟨3 + 1, rfl, by go_num, by omega, HBD.out, by rw [← HLN.out]; exact HVE.out.kpNo ((Kp.refl _ _).drewN _)⟩
    · have H4 := Lib.hid (show NewS IK 3 w0 wr _ (ints (besideP W H c)) by rw [← bsA_four]; exact HV.out)
      go_wp2
      go_ret
      exact ⟨_, rfl, H4.out.own, fun g hg => by have := H4.out.ge g hg; have := K0.out.size; omega, K0.out.trans H4.out.kp⟩
end Go.Proofs.YtfpikgkbccgchaaGreatDoor

namespace Go.Proofs.YtfpikgkbccgchaaGreatDoor
set_option linter.unusedVariables false
set_option linter.unusedSimpArgs false
open Go.RowKit

def arr8 (a : List Nat) : Array Value := (a.map fun (x : Nat) => Value.int .i64 (x : Int)).toArray
theorem arr8_get {a : List Nat} {r x : Nat} (h : a[r]? = some x) : (arr8 a)[r]? = some (.int .i64 (x : Int)) := by unfold arr8; simp [h]
theorem arr8_set (a : List Nat) (r x : Nat) : (arr8 a).setIfInBounds r (.int .i64 (x : Int)) = arr8 (a.set r x) := by
  unfold arr8
  rw [List.setIfInBounds_toArray, List.map_set]
structure DkW (f : Flr) (bf ba : Nat) (a : List Nat) (w0 w : World) : Prop where
  box : w.heap[bf]? = some (.cells #[.int .i64 f.W, .int .i64 f.H, .string f.s] 23 (0, 0))
  arr : w.heap[ba]? = some (.cells (arr8 a) 151 (0, 0))
  kp : Kp No w0 w
  lt : w0.heap.size ≤ bf ∧ w0.heap.size ≤ ba ∧ bf ≠ ba
theorem DkW.set {f : Flr} {bf ba : Nat} {a : List Nat} {w0 w : World} (h : DkW f bf ba a w0 w) (r x : Nat) : DkW f bf ba (a.set r x) w0 (w.setCell ⟨ba, r, none⟩ (.int .i64 (x : Int))) :=
  ⟨blk_far h.box h.lt.2.2 _, by rw [← arr8_set]; exact blk_set h.arr r _, h.kp.setCell (fun e => by have e : ba < w0.heap.size := e; have := h.lt; omega) _, h.lt⟩
theorem DkW.no {f : Flr} {bf ba : Nat} {a : List Nat} {w0 w w' : World} (h : DkW f bf ba a w0 w) (hk : Kp No w w') : DkW f bf ba a w0 w' := ⟨hk.blk h.box (no_no _), hk.blk h.arr (no_no _), h.kp.no hk, h.lt⟩
theorem ints_snocD (L : List Nat) (x : Nat) : ints (L ++ (some (x + 1)).toList.map (· - 1)) = ints L ++ [(x : Int)] := by simp [ints]
def DocksR (s : ByteArray) (w : World) (e : Ending) (w' : World) : Prop :=
  (∃ ds v, e = .returned (.tuple #[v, .bool true]) ∧ DocksL s ds ∧ NewS IK 3 w w' v (ints ds)) ∨ (e = .returned (.tuple #[.slice none 0 0, .bool false]) ∧ (¬ ∃ ds, DocksL s ds) ∧ Kp No w w')

set_option maxHeartbeats 2000000 in
set_option maxRecDepth 100000 in
theorem docks_any (f : Flr) (hs : f.s.size ≤ 2000) (w : World) : Calls Tryz.prog 55 #[f.val] w (DocksR f.s w) := by
  unfold Flr.val
  obtain ⟨n, hn⟩ : ∃ n, n = f.s.size := ⟨_, rfl⟩
  have hnI : ((f.s.size : Nat) : Int) = (n : Int) := by omega
  have HN := Lib.hid hn
  have hn2 : n ≤ 2000 := by omega
  clear hs hn
  go_enter Tryz.func55, Tryz.ntmps55
  go_wp2
  obtain ⟨bf, hbf⟩ : ∃ bf, bf = w.heap.size := ⟨_, rfl⟩
  obtain ⟨ba, hba⟩ : ∃ ba, ba = w.heap.size + 1 := ⟨_, rfl⟩
  obtain ⟨w0, hw0⟩ : ∃ w0, w0 = (w.alloc (.cells #[.int .i64 f.W, .int .i64 f.H, .string f.s] 23)).alloc (.cells #[.int .i64 0, .int .i64 0, .int .i64 0, .int .i64 0, .int .i64 0, .int .i64 0, .int .i64 0, .int .i64 0] 151) := ⟨_, rfl⟩
  have D0 : Hid (DkW f bf ba (List.replicate 8 0) w w0) := Lib.hid (by
    rw [hw0, hbf, hba]
    refine ⟨blk_alloc (blk_new w _) _, ?_, ((Kp.refl _ _).alloc _).alloc _, by omega, by omega, by omega⟩
    have := blk_new (w.alloc (.cells #[.int .i64 f.W, .int .i64 f.H, .string f.s] 23)) (.cells #[.int .i64 0, .int .i64 0, .int .i64 0, .int .i64 0, .int .i64 0, .int .i64 0, .int .i64 0, .int .i64 0] 151)
    show (_ : World).heap[_]? = some (Obj.cells #[.int .i64 0, .int .i64 0, .int .i64 0, .int .i64 0, .int .i64 0, .int .i64 0, .int .i64 0, .int .i64 0] 151 (0, 0))
    simpa using this)
  rw [← hba, ← hbf, ← hw0]
  clear hbf hba hw0
  go_loopg [5, 14] (n + 1) (fun g2 c kk wr => ∃ (k m : Nat) (a : List Nat), g2 = n + 1 - k ∧ kk = .int .i64 k ∧ c = .int .i64 m ∧ k ≤ n ∧ DkW f bf ba a w wr ∧ DkI f.s k a m)
  case atStart => exact ⟨0, 0, _, rfl, rfl, rfl, by omega, D0.out, DkI.start _⟩
  case round =>
    obtain ⟨k, m, a, hgk, rfl, rfl, hk, dw, di⟩ := hrel
    have hm8 := di.n8
    have DW := Lib.hid dw; have DI := Lib.hid di
    clear dw di
    by_cases hlt : k < n
    · have hltI : (k : Int) < (n : Int) := by omega
      have hwk : IntKind.i64.wrap ((k : Int) + 1) = (k : Int) + 1 := IntWalk.i64_in _ (by omega)
      have hwm : IntKind.i64.wrap ((m : Int) + 1) = (m : Int) + 1 := IntWalk.i64_in _ (by omega)
      have hks : k < f.s.size := by have := HN.out; omega
      have hksI : (k : Int) < ((f.s.size : Nat) : Int) := by omega
      have hbt := bt_at f.s k
      have hb2 : wr.cell? ⟨bf, 2, none⟩ = some (.string f.s) := blk_cell DW.out.box 2
      obtain ⟨K, hK⟩ : ∃ K, K = kindB (bt f.s k) := ⟨_, rfl⟩
      have hkd := fun w => kind_any (bt f.s k) w
      rw [← hK] at hkd
      have HK := Lib.hid (show K = kdS f.s k from hK)
      have HKD := Lib.hid hkd
      clear hkd
      by_cases h3 : K = 3
      · have h3b : ((K : Int) != 3) = false := by simp [h3]
        have hdk := kd_dock (hK.symm.trans h3)
        have hkk : kdS f.s k = 3 := by rw [← HK.out, h3]
        obtain ⟨B, hB⟩ : ∃ B, B = bt f.s k := ⟨_, rfl⟩
        rw [← hB] at hbt HKD hdk
        obtain ⟨r, hr⟩ : ∃ r, B = 48 + r := ⟨B - 48, by omega⟩
        have hsub : IntKind.u8.wrap ((B : Int) - 48) = (r : Int) := by rw [IntWalk.u8_in _ (by omega)]; omega
        have hr8 : (r : Int) < 8 := by omega
        have hra : r < a.length := by rw [DI.out.len]; omega
        obtain ⟨x, hx⟩ : ∃ x, a[r]? = some x := ⟨_, List.getElem?_eq_getElem hra⟩
        have hcx : wr.cell? ⟨ba, r, none⟩ = some (.int .i64 (x : Int)) := (blk_cell DW.out.arr r).trans (arr8_get hx)
        have hcf : wr.frozen? ⟨ba, r, none⟩ = false := blk_free DW.out.arr r
        rcases x with _ | x
        · have D2 := Lib.hid (DW.out.set r (k + 1))
          have I2 := Lib.hid (DI.out.take hkk (by rw [← hB, hr]) hx)
          clear hx hra hB hr hdk hkk h3 hK hlt hks
          go_wp2_with (go_at_call 45; refine (HKD.out _).mono ?_; rintro e wz ⟨rfl, rfl⟩)
          go_roundg (n + 1 - (k + 1))
          case measure => omega
          case rel => exact ⟨k + 1, m + 1, _, rfl, by go_num, by go_num, by omega, D2.out, I2.out⟩
        · have hno := Lib.hid (DI.out.twice hks hkk (by rw [← hB, hr]) hx)
          have hx0 : (0 : Int) < ((x + 1 : Nat) : Int) := by omega
          clear hx hra hB hr hdk hkk h3 hK hlt hks
          go_wp2_with (go_at_call 45; refine (HKD.out _).mono ?_; rintro e wz ⟨rfl, rfl⟩)
          go_ret2
          exact .inr ⟨rfl, hno.out, DW.out.kp⟩
      · have h3b : ((K : Int) != 3) = true := by simp; omega
        have I2 := Lib.hid (DI.out.skip (by rw [← HK.out]; exact h3))
        clear h3 hK hlt hks
        go_wp2_with (go_at_call 45; refine (HKD.out _).mono ?_; rintro e wz ⟨rfl, rfl⟩)
        go_roundg (n + 1 - (k + 1))
        case measure => omega
        case rel => exact ⟨k + 1, m, a, rfl, by go_num, rfl, by omega, DW.out, I2.out⟩
    · obtain rfl : k = n := by omega
      have hd0 : ¬ (k : Int) < (k : Int) := by omega
      have DE := Lib.hid (show DkI f.s f.s.size a m by rw [← HN.out]; exact DI.out)
      have hm8I : (m : Int) ≤ 8 := by omega
      have hm0 : (0 : Int) ≤ (m : Int) := by omega
      clear hlt DI
      go_wp2
      obtain ⟨wo, rfl⟩ : ∃ wo : World, wo = wr := ⟨_, rfl⟩
      have KW := Lib.hid DW.out.kp
      have NS0 := Lib.hid (show NewS IK 3 w wo (.slice none 0 0) (ints ((a.take 0).map (· - 1))) from ⟨Own.nil _ _ _, by simp [Value.ownBlock], DW.out.kp⟩)
      have NB0 := Lib.hid (show ∀ g, (Value.slice none 0 0).ownBlock = some g → g ≠ ba by simp [Value.ownBlock])
      go_loopg [8, 42] (m + 1) (fun g2 v jj wx => ∃ j : Nat, g2 = m + 1 - j ∧ jj = .int .i64 j ∧ j ≤ m ∧ (∀ i, i < j → a[i]? ≠ some 0) ∧ NewS IK 3 w wx v (ints ((a.take j).map (· - 1))) ∧ DkW f bf ba a w wx ∧ (∀ g, v.ownBlock = some g → g ≠ ba ∧ g ≠ bf) ∧ (j = 0 → v = .slice none 0 0))
      case atStart => exact ⟨0, rfl, rfl, by omega, by simp, NS0.out, DW.out, by simp [Value.ownBlock], fun _ => rfl⟩
      case round =>
        obtain ⟨j, hgj, rfl, hj, hnz, ns, dw, nb, hz⟩ := hrel
        have hla : ((a.take j).map (· - 1)).length = j := by rw [List.length_map, List.length_take]; have := DE.out.len; omega
        have hj8 : j ≤ 8 := by omega
        by_cases hlt : j < m
        · have hltI : (j : Int) < (m : Int) := by omega
          have hwj : IntKind.i64.wrap ((j : Int) + 1) = (j : Int) + 1 := IntWalk.i64_in _ (by omega)
          have hra : j < a.length := by rw [DE.out.len]; omega
          obtain ⟨x, hx⟩ : ∃ x, a[j]? = some x := ⟨_, List.getElem?_eq_getElem hra⟩
          have hcx : wr.cell? ⟨ba, j, none⟩ = some (.int .i64 (x : Int)) := (blk_cell dw.arr j).trans (arr8_get hx)
          rcases x with _ | x
          · have hno := Lib.hid (DE.out.hole hlt hx)
            have KX := Lib.hid dw.kp
            clear ns dw nb hz hnz hla hx hra hlt
            go_wp2
            go_ret2
            exact .inr ⟨rfl, hno.out, KX.out⟩
          · obtain ⟨A3, q3, rfl⟩ := ns.own.rd.shape
            obtain ⟨T, hTe⟩ : ∃ T, T = (a.take j).map (· - 1) := ⟨_, rfl⟩
            obtain ⟨y, hy⟩ : ∃ y, y = x + 1 := ⟨_, rfl⟩
            rw [← hTe] at ns nb hz hla ⊢
            rw [← hy] at hcx
            rw [ints_len, hla] at ns nb hz ⊢
            have hxw : IntKind.i64.wrap ((y : Int) - 1) = (x : Int) := by
              have := (DE.out.sound j x hx).1
              have := HN.out
              rw [IntWalk.i64_in _ (by omega)]; omega
            have hxe : ((y : Int) == 0) = false := by simp; omega
            have HZ := Lib.hid (show ∀ i, i < j + 1 → a[i]? ≠ some 0 by
              intro i hi
              rcases Nat.lt_or_ge i j with h | h
              · exact hnz i h
              · obtain rfl : i = j := by omega
                rw [hx]; simp)
            have HT := Lib.hid (show ints ((a.take (j + 1)).map (· - 1)) = ints T ++ [(x : Int)] by
              rw [List.take_add_one, hx, List.map_append, hTe]; exact ints_snocD _ x)
            have NS := Lib.hid ns; have DX := Lib.hid dw; have NB := Lib.hid nb
            have HLA := Lib.hid hla
            clear ns dw nb hz hnz hla hx hra hlt hTe hy
            go_wp2_with (at_builtin; refine wpl_append elI rfl (.tmp 48) (.tmp 51) rfl rfl rfl (l := ints T) (m := [(x : Int)]) ?c1 ?c2 ?c3 ?c4 ?c5)
            case c1 => exact NS.out.own.alloc _
            case c2 => exact Rd.litAt IK 3 _ _ [(x : Int)] rfl (by unfold maxLen; simp) _ _ rfl rfl
            case c3 => show (ints _).length + 1 ≤ maxLen; rw [ints_len, HLA.out]; unfold maxLen; omega
            case c4 => show ((ints _).length + 1) * 8 ≤ _; rw [ints_len, HLA.out]; omega
            case c5 =>
              intro v' w' k1 k2 k3
              rw [← HT.out] at k1
              have q := NewS.app2 k1 k2 k3 ((Kp.refl No wr).alloc _) NS.out (Nat.le_succ _)
              have d1 := DX.out.no ((Kp.refl No wr).alloc (.cells #[.int .i64 (x : Int)] 3))
              have hs1 := lt_of_block DX.out.arr
              have hs2 := lt_of_block DX.out.box
              have d2 : DkW f bf ba a w w' := ⟨k2.blk d1.box (fun e => (NB.out _ e).2 rfl), k2.blk d1.arr (fun e => (NB.out _ e).1 rfl), q.kp, d1.lt⟩
              have n2 : ∀ g, v'.ownBlock = some g → g ≠ ba ∧ g ≠ bf := fun g hg => by
                rcases k3 g hg with e | e
                · exact NB.out g e
                · have e : wr.heap.size + 1 ≤ g := e; omega
              obtain ⟨A5, q5, rfl⟩ := k1.rd.shape
              have Q := Lib.hid q; have D2 := Lib.hid d2; have N2 := Lib.hid n2
              clear q d1 d2 n2 k1 k2 k3 hs1 hs2 hcx
              go_wp2
              go_roundg (m + 1 - (j + 1))
              case measure => omega
              case rel => exact ⟨j + 1, rfl, by go_num, by omega, HZ.out, Q.out, D2.out, N2.out, fun e => absurd e (by omega)⟩
        · obtain rfl : j = m := by omega
          have hd0 : ¬ (j : Int) < (j : Int) := by omega
          clear hlt
          by_cases hj0 : j = 0
          · subst hj0
            obtain rfl := hz rfl
            have KX := Lib.hid dw.kp
            have hno := Lib.hid DE.out.none
            clear ns dw nb hz hnz hla
            go_wp2
            go_ret2
            exact .inr ⟨rfl, hno.out, KX.out⟩
          · have hjp : (0 : Int) < (j : Int) := by omega
            have hjp2 : 0 < j := by omega
            have hjb : decide (0 < j) = true := by simp; omega
            have HDS := Lib.hid (DE.out.docks (by omega) hnz)
            obtain ⟨T, hTe⟩ : ∃ T, T = ints ((a.take j).map (· - 1)) := ⟨_, rfl⟩
            rw [← hTe] at ns
            have HTe := Lib.hid hTe
            have NS := Lib.hid ns
            clear ns dw nb hz hnz hla hj0 hTe
            obtain ⟨A3, q3, rfl⟩ := NS.out.own.rd.shape
            go_wp2
            go_ret2
            exact .inl ⟨_, _, rfl, HDS.out, by rw [← HTe.out]; exact NS.out⟩
end Go.Proofs.YtfpikgkbccgchaaGreatDoor

namespace Go.Proofs.YtfpikgkbccgchaaGreatDoor
set_option linter.unusedVariables false
set_option linter.unusedSimpArgs false
open Go.RowKit

def lanesTo (s : ByteArray) (k : Nat) : List Nat := (List.range k).filter fun i => kdS s i == 2
theorem lanesTo_in {s : ByteArray} {k : Nat} (h : kdS s k = 2) : lanesTo s (k + 1) = lanesTo s k ++ [k] := by
  unfold lanesTo; rw [List.range_succ, List.filter_append]; simp [h]
theorem lanesTo_out {s : ByteArray} {k : Nat} (h : kdS s k ≠ 2) : lanesTo s (k + 1) = lanesTo s k := by
  unfold lanesTo; rw [List.range_succ, List.filter_append]; simp [h]
theorem lanesTo_mem {s : ByteArray} {k i : Nat} : i ∈ lanesTo s k ↔ i < k ∧ kdS s i = 2 := by unfold lanesTo; simp
theorem lanesTo_len (s : ByteArray) (k : Nat) : (lanesTo s k).length ≤ k := by unfold lanesTo; exact Nat.le_trans (List.length_filter_le _ _) (by simp)

/-- What the search knows: L: lanes that were not met; N: lanes that were met, and are to be looked at. -/
structure Dfs (W H : Nat) (s : ByteArray) (l : Nat) (L N : List Nat) : Prop where
  lane : ∀ i ∈ L, laneI s i
  conn : ∀ i, laneI s i → i ∉ L → Conn W H s l i
  next : ∀ i ∈ N, laneI s i ∧ i ∉ L
  shut : ∀ i, laneI s i → i ∉ L → i ∈ N ∨ ∀ k ∈ besideP W H i, laneI s k → k ∉ L
  first : laneI s l ∧ l ∉ L
/-- While a lane's neighbours are looked at. -/
structure DfsI (W H : Nat) (s : ByteArray) (l c j : Nat) (L N : List Nat) : Prop where
  lane : ∀ i ∈ L, laneI s i
  conn : ∀ i, laneI s i → i ∉ L → Conn W H s l i
  next : ∀ i ∈ N, laneI s i ∧ i ∉ L
  shut : ∀ i, laneI s i → i ∉ L → i ∈ N ∨ i = c ∨ ∀ k ∈ besideP W H i, laneI s k → k ∉ L
  first : laneI s l ∧ l ∉ L
  cell : laneI s c ∧ c ∉ L
  part : ∀ k ∈ (besideP W H c).take j, k ∉ L
section
variable {W H l c j : Nat} {s : ByteArray} {L N : List Nat}
theorem Dfs.pop (h : Dfs W H s l L (N ++ [c])) : DfsI W H s l c 0 L N :=
  ⟨h.lane, h.conn, fun i hi => h.next i (List.mem_append_left _ hi), fun i h1 h2 => by
    rcases h.shut i h1 h2 with h3 | h3
    · rcases List.mem_append.1 h3 with h3 | h3
      · exact .inl h3
      · exact .inr (.inl (List.mem_singleton.1 h3))
    · exact .inr (.inr h3), h.first, h.next c (by simp), fun k hk => by simp at hk⟩
theorem DfsI.seen (h : DfsI W H s l c j L N) {b : Nat} (hb : (besideP W H c)[j]? = some b) (hn : b ∉ L) : DfsI W H s l c (j + 1) L N :=
  ⟨h.lane, h.conn, h.next, h.shut, h.first, h.cell, fun k hk => by
      rw [List.take_add_one, hb] at hk
      rcases List.mem_append.1 hk with hk | hk
      · exact h.part k hk
      · simp at hk; subst hk; exact hn⟩
theorem DfsI.meet (h : DfsI W H s l c j L N) {b : Nat} (hb : (besideP W H c)[j]? = some b) (hn : b ∈ L) : DfsI W H s l c (j + 1) (L.filter fun x => x != b) (N ++ [b]) := by
  have hm : ∀ i, i ∉ L.filter (fun x => x != b) → i ∉ L ∨ i = b := by
    intro i hi
    by_cases e : i = b
    · exact .inr e
    · exact .inl fun h2 => hi (List.mem_filter.2 ⟨h2, by simp [e]⟩)
  have hs : ∀ i, i ∉ L → i ∉ L.filter (fun x => x != b) := fun i hi h2 => hi (List.mem_filter.1 h2).1
  have hbb : b ∉ L.filter (fun x => x != b) := fun h2 => by have := (List.mem_filter.1 h2).2; simp at this
  refine ⟨fun i hi => h.lane i (List.mem_filter.1 hi).1, fun i h1 h2 => ?_, fun i hi => ?_, fun i h1 h2 => ?_, ⟨h.first.1, hs _ h.first.2⟩, ⟨h.cell.1, hs _ h.cell.2⟩, fun k hk => ?_⟩
  · rcases hm i h2 with h3 | rfl
    · exact h.conn i h1 h3
    · exact .step (h.conn c h.cell.1 h.cell.2) (List.mem_of_getElem? hb) h1
  · rcases List.mem_append.1 hi with hi | hi
    · exact ⟨(h.next i hi).1, hs _ (h.next i hi).2⟩
    · obtain rfl := List.mem_singleton.1 hi
      exact ⟨h.lane _ hn, hbb⟩
  · rcases hm i h2 with h3 | rfl
    · rcases h.shut i h1 h3 with h4 | h4 | h4
      · exact .inl (List.mem_append_left _ h4)
      · exact .inr (.inl h4)
      · exact .inr (.inr fun k hk hl => hs _ (h4 k hk hl))
    · exact .inl (by simp)
  · rw [List.take_add_one, hb] at hk
    rcases List.mem_append.1 hk with hk | hk
    · exact hs _ (h.part k hk)
    · simp at hk; subst hk; exact hbb
theorem DfsI.done (h : DfsI W H s l c (besideP W H c).length L N) : Dfs W H s l L N :=
  ⟨h.lane, h.conn, h.next, fun i h1 h2 => by
    rcases h.shut i h1 h2 with h3 | rfl | h3
    · exact .inl h3
    · exact .inr fun k hk _ => h.part k (by rw [List.take_length]; exact hk)
    · exact .inr h3, h.first⟩
theorem Dfs.end_ (h : Dfs W H s l L []) (hW : 1 ≤ W) (hs : s.size = W * H) : L = [] ↔ joinedP W H s := by
  rw [joined_one hW hs h.first.1]
  constructor
  · rintro rfl j hj
    exact h.conn j hj (by simp)
  · intro hc
    rcases L with _ | ⟨x, xs⟩
    · rfl
    · exfalso
      have hx := h.lane x (by simp)
      have := (hc x hx).closed (p := fun i => laneI s i ∧ i ∉ x :: xs) h.first fun j k hj hk hl => by
        rcases h.shut j hj.1 hj.2 with h3 | h3
        · simp at h3
        · exact ⟨hl, h3 k hk hl⟩
      exact this.2 (by simp)
theorem Dfs.start (hl : laneI s l) : Dfs W H s l ((lanesTo s s.size).filter fun x => x != l) [l] := by
  have hm : ∀ i, laneI s i → i ∉ (lanesTo s s.size).filter (fun x => x != l) → i = l := by
    intro i hi hn
    by_cases e : i = l
    · exact e
    · exact absurd (List.mem_filter.2 ⟨lanesTo_mem.2 hi, by simp [e]⟩) hn
  have hln : l ∉ (lanesTo s s.size).filter fun x => x != l := fun h2 => by have := (List.mem_filter.1 h2).2; simp at this
  refine ⟨fun i hi => lanesTo_mem.1 (List.mem_filter.1 hi).1, fun i h1 h2 => ?_, fun i hi => ?_, fun i h1 h2 => ?_, hl, hln⟩
  · rw [hm i h1 h2]; exact .refl
  · rw [List.mem_singleton.1 hi]; exact ⟨hl, hln⟩
  · rw [hm i h1 h2]; exact .inl (by simp)
theorem filter_ne_lt {L : List Nat} {b : Nat} (h : b ∈ L) : (L.filter fun x => x != b).length + 1 ≤ L.length := by
  have := List.length_filter_lt_length_iff_exists (p := fun x => x != b) (l := L) |>.2 ⟨b, h, by simp⟩
  omega
end
end Go.Proofs.YtfpikgkbccgchaaGreatDoor

namespace Go.Proofs.YtfpikgkbccgchaaGreatDoor
set_option linter.unusedVariables false
set_option linter.unusedSimpArgs false
open Go.RowKit

theorem mapB : MapT Tryz.prog 45 3 4 (.bool false) := ⟨by kernel_rfl, by kernel_rfl, fun w => by kernel_rfl⟩
structure JnW (W H : Nat) (s : ByteArray) (bf bm : Nat) (w0 : World) (v : Value) (L N : List Nat) (w : World) : Prop where
  box : w.heap[bf]? = some (.cells #[.int .i64 (W : Int), .int .i64 (H : Int), .string s] 23 (0, 0))
  set : SetI w bm (ints L)
  own : Own IK 3 w v (ints N)
  ge : ∀ g, v.ownBlock = some g → w0.heap.size ≤ g
  kp : Kp (fun k => k = bm) w0 w
  lt : bf < w0.heap.size ∧ bm < w0.heap.size ∧ bf ≠ bm
section
variable {W H bf bm : Nat} {s : ByteArray} {w0 w w1 w' : World} {v v' : Value} {L L' N N' : List Nat}
theorem JnW.no (h : JnW W H s bf bm w0 v L N w) (hk : Kp No w w') : JnW W H s bf bm w0 v L N w' :=
  ⟨hk.blk h.box (no_no _), h.set.kp hk (no_no _), h.own.kpNo hk, h.ge, h.kp.no hk, h.lt⟩
theorem JnW.nm (h : JnW W H s bf bm w0 v L N w) {g : Nat} (hg : v.ownBlock = some g) : g ≠ bm ∧ g ≠ bf := by
  have := h.ge g hg; have := h.lt; omega
theorem JnW.map (h : JnW W H s bf bm w0 v L N w) (hs : SetI w' bm (ints L')) (hk : Kp (fun k => k = bm) w w') : JnW W H s bf bm w0 v L' N w' :=
  ⟨hk.blk h.box h.lt.2.2, hs, h.own.kp hk (fun g hg => (h.nm hg).1), h.ge, h.kp.trans hk, h.lt⟩
theorem JnW.app {n : Nat} (h : JnW W H s bf bm w0 v L N w) (hk : Kp No w w1) (k1 : Own IK 3 w' v' (ints N')) (k2 : Kp (fun k => v.ownBlock = some k) w1 w') (k3 : ∀ g, v'.ownBlock = some g → v.ownBlock = some g ∨ n ≤ g) (hn : w.heap.size ≤ n) : JnW W H s bf bm w0 v' L N' w' := by
  have h1 := h.no hk
  have hs := h.kp.size
  refine ⟨k2.blk h1.box (fun e => (h.nm e).2 rfl), h1.set.kp k2 (fun e => (h.nm e).1 rfl), k1, fun g hg => ?_, h1.kp.trans' k2 fun k hk e => by have := h.ge k e; omega, h.lt⟩
  rcases k3 g hg with e | e
  · exact h.ge g e
  · omega
theorem JnW.one (h : JnW W H s bf bm w0 v L N w) (k : Nat) : JnW W H s bf bm w0 (.slice (some ⟨w.heap.size, 0, none⟩) 1 1) L [k] (w.alloc (.cells #[.int .i64 (k : Int)] 3)) := by
  have h1 := h.no ((Kp.refl No w).alloc (.cells #[.int .i64 (k : Int)] 3))
  refine ⟨h1.box, h1.set, Own.lit IK 3 w [.int .i64 (k : Int)] [(k : Int)] rfl (by unfold maxLen; simp), fun g hg => ?_, h1.kp, h.lt⟩
  have := h.kp.size
  simp [Value.ownBlock] at hg
  omega
end
theorem JnW.cut {W H bf bm : Nat} {s : ByteArray} {w0 w : World} {L N : List Nat} {c2 g p cap m : Nat} (h : JnW W H s bf bm w0 (.slice (some ⟨g, 0, none⟩) p cap) L (N ++ [c2]) w) (hm : m = N.length) : JnW W H s bf bm w0 (.slice (some ⟨g, 0, none⟩) m cap) L N w ∧ w.cell? ⟨g, m, none⟩ = some (.int .i64 (c2 : Int)) ∧ m < cap ∧ p = m + 1 := by
  rcases h.own.b with ⟨hv, _⟩ | ⟨g', cap', hv, hcm, hlc, hob⟩
  · simp at hv
  simp only [Value.slice.injEq, Option.some.injEq, Addr.mk.injEq] at hv
  obtain ⟨⟨rfl, _, _⟩, rfl, rfl⟩ := hv
  have hl : (ints (N ++ [c2])).length = m + 1 := by rw [ints_len]; simp [hm]
  have ht : (ints (N ++ [c2])).take m = ints N := by
    unfold ints; rw [← List.map_take, hm, List.take_left]
  have ho := (hob.take m).own hcm
  rw [ht, ints_len, ← hm] at ho
  refine ⟨⟨h.box, h.set, ho, h.ge, h.kp, h.lt⟩, hob.cells m _ ?_, by omega, hl⟩
  have hg : (ints (N ++ [c2]))[m]? = some (c2 : Int) := by
    unfold ints; rw [List.getElem?_map, hm, List.getElem?_append_right (Nat.le_refl _)]; simp
  have := IK.encs_get (ints (N ++ [c2])) m 0 _ hg (by decide)
  simpa [IK] using this
theorem snoc_cases (N : List Nat) : N = [] ∨ ∃ l b, N = l ++ [b] := by
  rcases List.eq_nil_or_concat N with h | ⟨l, b, h⟩
  · exact .inl h
  · exact .inr ⟨l, b, by rw [h, List.concat_eq_append]⟩
theorem ints_snoc (L : List Nat) (k : Nat) : ints (L ++ [k]) = ints L ++ [(k : Int)] := by simp [ints]
theorem ints_mem {L : List Nat} {k : Nat} : (k : Int) ∈ ints L ↔ k ∈ L := by
  unfold ints
  rw [List.mem_map]
  constructor
  · rintro ⟨a, ha, e⟩
    obtain rfl : a = k := by omega
    exact ha
  · exact fun h => ⟨k, h, rfl⟩
theorem ints_filter (L : List Nat) (k : Nat) : (ints L).filter (fun x => x != (k : Int)) = ints (L.filter fun x => x != k) := by
  unfold ints
  rw [List.filter_map]
  congr 1
  apply List.filter_congr
  intro x _
  simp only [Function.comp, bne]
  congr 1
  by_cases e : x = k
  · subst e; simp
  · rw [beq_eq_false_iff_ne.2 e, beq_eq_false_iff_ne.2 (by omega)]
theorem ints_get {L : List Nat} {i x : Nat} (h : L[i]? = some x) : (ints L)[i]? = some (x : Int) := by unfold ints; rw [List.getElem?_map, h]; rfl
theorem addS_new {L : List Nat} {k : Nat} (h : k ∉ L) : addS (ints L) (k : Int) = ints (L ++ [k]) := by unfold addS; rw [if_neg (fun e => h (ints_mem.1 e)), ints_snoc]
end Go.Proofs.YtfpikgkbccgchaaGreatDoor
