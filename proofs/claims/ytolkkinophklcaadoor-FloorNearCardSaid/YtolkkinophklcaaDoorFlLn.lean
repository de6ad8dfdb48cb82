/- FloorNear, the walk. -/
import Derived.Test.YtolkkinophklcaaDoorFlSw
import Derived.Test.YtolkkinophklcaaDoorLaw
import Derived.OpenShut
import Derived.Lib.SmallJoins
namespace Go.Proofs.YtolkkinophklcaaDoor
set_option linter.unusedVariables false
set_option linter.unusedSimpArgs false
open Go.RowKit

theorem near_iff {f : Flr} {x y : Nat} (r : RightP f) (hx : x < f.s.size) : y ∈ nearP f x ↔ kdS f.s x ≠ 1 ∧ y ∈ besideP f.W.toNat f.H.toNat x ∧ kdS f.s y ≠ 1 := by
  have hk := right_kdP r hx
  by_cases h1 : kdS f.s x = 1
  · have : nearP f x = [] := by
      unfold nearP
      rw [if_neg]
      rintro (h | h) <;> (have := (isB_iff.1 h).2.2.1; simp at this; omega)
    rw [this]; simp [h1]
  · have hW := Int.toNat_of_nonneg (show 0 ≤ f.W from by have := r.w1; omega)
    have hH := Int.toNat_of_nonneg (show 0 ≤ f.H from by have := r.h1; omega)
    rw [nearP_at (W := f.W.toNat) (H := f.H.toNat) (rightB_t r) hx hW.symm hH.symm (by omega), List.mem_filter]
    simp [h1]
theorem near_symm {f : Flr} {x y : Nat} (r : RightP f) (hx : x < f.s.size) (hy : y < f.s.size) : y ∈ nearP f x ↔ x ∈ nearP f y := by
  have hW1 : 1 ≤ f.W.toNat := by have := r.w1; omega
  have hs : f.s.size = f.W.toNat * f.H.toNat := by
    have hW := Int.toNat_of_nonneg (show 0 ≤ f.W from by have := r.w1; omega)
    have hH := Int.toNat_of_nonneg (show 0 ≤ f.H from by have := r.h1; omega)
    have := r.len
    rw [← hW, ← hH] at this
    exact_mod_cast this
  rw [near_iff r hx, near_iff r hy]
  constructor
  · rintro ⟨h1, h2, h3⟩; exact ⟨h3, beside_symm hW1 (by rw [← hs]; exact hx) h2, h1⟩
  · rintro ⟨h1, h2, h3⟩; exact ⟨h3, beside_symm hW1 (by rw [← hs]; exact hy) h2, h1⟩
theorem near_ne {f : Flr} {x : Nat} (r : RightP f) (hx : x < f.s.size) : x ∉ nearP f x := by
  rw [near_iff r hx]
  rintro ⟨_, h, _⟩
  exact beside_ne (by have := r.w1; omega) h
theorem nearP_len (f : Flr) (c : Int) : (nearP f c).length ≤ 4 := by
  unfold nearP
  split
  · exact Nat.le_trans (List.length_filter_le _ _) (besideP_len _ _ _)
  · simp
def anyTo (L : List Nat) (y k : Nat) : Bool := (L.take k).any fun z => z == y
theorem anyTo_succ {L : List Nat} {y k z : Nat} (h : L[k]? = some z) : anyTo L y (k + 1) = (anyTo L y k || z == y) := by
  unfold anyTo; rw [List.take_add_one, h, List.any_append]; simp
theorem anyTo_all (L : List Nat) (y : Nat) : anyTo L y L.length = decide (y ∈ L) := by
  unfold anyTo; rw [List.take_length, Bool.eq_iff_iff]; simp

set_option maxHeartbeats 2000000 in
set_option maxRecDepth 100000 in
theorem near_row (s : ByteArray) (hs : s.size ≤ 9223372036854775807) (p q : Int) (hp0 : 0 ≤ p) (hp : p ≤ 255) (hq0 : 0 ≤ q) (hq : q ≤ 255) (w : World) : Calls Tryd.prog 4 #[.string s, .int .u8 p, .int .u8 q] w (LawR w) := by
  unfold LawR
  have HSH := Lib.hid shown_any
  obtain ⟨n, hn⟩ : ∃ n, n = s.size := ⟨_, rfl⟩
  have hnI : ((s.size : Nat) : Int) = (n : Int) := by omega
  rw [← hn] at hs
  by_cases h : 2000 < n
  · have hI : (2000 : Int) < (n : Int) := by omega
    clear hn h
    go_enter Tryd.func4, Tryd.ntmps4
    go_wp2_with fail
    refine (HSH.out _).mono ?_
    rintro e w1 ⟨rfl, k1⟩
    have K1 := Lib.hid k1
    clear k1
    go_wp2_with fail
    go_ret
    exact ⟨rfl, K1.out⟩
  · have hI : ¬ (2000 : Int) < (n : Int) := by omega
    obtain ⟨⟨⟨X, Y, S⟩, y, er⟩, hr⟩ : ∃ r, parseP s = r := ⟨_, rfl⟩
    have HP := Lib.hid (parse_at s (by omega) _ hr (.tuple #[.agg #[.int .i64 X, .int .i64 Y, .string S], .int .i64 (y : Int), .int .i64 (er : Int)]) rfl)
    have HOK := Lib.hid (show er = 0 → RightP ⟨X, Y, S⟩ from fun h => rightB_iff.1 (by have := parseP_ok (s := s) (by rw [hr]; exact h); rwa [hr] at this))
    clear hn h hr
    by_cases he : er = 0
    · have heb : ((er : Int) != 0) = false := by simp [he]
      have hR := HOK.out he
      obtain ⟨W, hW⟩ : ∃ W : Nat, X = W := ⟨X.toNat, by have := hR.w1; simp at this; omega⟩
      obtain ⟨H, hH⟩ : ∃ H : Nat, Y = H := ⟨Y.toNat, by have := hR.h1; simp at this; omega⟩
      subst hW hH
      obtain ⟨m, hm⟩ : ∃ m, m = S.size := ⟨_, rfl⟩
      have hWH : (W : Int) * (H : Int) = (m : Int) := by have := hR.len; simp only at this; rw [hm]; exact this.symm
      have hm256 : m ≤ 256 := by rw [hm]; exact hR.s256
      have hm1 : 1 ≤ m := by
        obtain ⟨i, hi⟩ := hR.join.1
        have hi1 : i < S.size := hi.1
        omega
      have HM := Lib.hid hm
      have HR := Lib.hid hR
      obtain ⟨p, rfl⟩ : ∃ p' : Nat, p = p' := ⟨p.toNat, by omega⟩
      obtain ⟨q, rfl⟩ : ∃ q' : Nat, q = q' := ⟨q.toNat, by omega⟩
      have hwm : IntKind.i64.wrap (m : Int) = (m : Int) := IntWalk.i64_in _ (by omega)
      have hwp : IntKind.i64.wrap (p : Int) = (p : Int) := IntWalk.i64_in _ (by omega)
      have hwq : IntKind.i64.wrap (q : Int) = (q : Int) := IntWalk.i64_in _ (by omega)
      obtain ⟨x, hx⟩ : ∃ x, x = p % m := ⟨_, rfl⟩
      obtain ⟨z, hz⟩ : ∃ z, z = q % m := ⟨_, rfl⟩
      have hxm : x < m := by rw [hx]; exact Nat.mod_lt _ hm1
      have hzm : z < m := by rw [hz]; exact Nat.mod_lt _ hm1
      have hxI : (p : Int).tmod (m : Int) = (x : Int) := by rw [Int.tmod_eq_emod_of_nonneg (by omega), hx]; rfl
      have hzI : (q : Int).tmod (m : Int) = (z : Int) := by rw [Int.tmod_eq_emod_of_nonneg (by omega), hz]; rfl
      have hxJ : (p : Int) % (m : Int) = (x : Int) := by rw [hx]; rfl
      have hzJ : (q : Int) % (m : Int) = (z : Int) := by rw [hz]; rfl
      have hwx : IntKind.i64.wrap (x : Int) = (x : Int) := IntWalk.i64_in _ (by omega)
      have hwz : IntKind.i64.wrap (z : Int) = (z : Int) := IntWalk.i64_in _ (by omega)
      have hm0 : ((m : Int) == 0) = false := by simp; omega
      have hm0' : (m : Int) ≠ 0 := by omega
      have hml : ¬ (m : Int) < 1 := by omega
      have H1 := Lib.hid (near_any ⟨W, H, S⟩ (by show S.size ≤ _; omega) (x : Int) (by omega))
      have H2 := Lib.hid (near_any ⟨W, H, S⟩ (by show S.size ≤ _; omega) (z : Int) (by omega))
      obtain ⟨L1, hL1⟩ : ∃ L, L = nearP ⟨W, H, S⟩ (x : Int) := ⟨_, rfl⟩
      obtain ⟨L2, hL2⟩ : ∃ L, L = nearP ⟨W, H, S⟩ (z : Int) := ⟨_, rfl⟩
      rw [← hL1] at H1
      rw [← hL2] at H2
      obtain ⟨n1, hn1⟩ : ∃ n1, n1 = L1.length := ⟨_, rfl⟩
      obtain ⟨n2, hn2⟩ : ∃ n2, n2 = L2.length := ⟨_, rfl⟩
      have hn14 : n1 ≤ 4 := by rw [hn1, hL1]; exact nearP_len _ _
      have hn24 : n2 ≤ 4 := by rw [hn2, hL2]; exact nearP_len _ _
      have HN1 := Lib.hid hn1; have HN2 := Lib.hid hn2
      have HSY := Lib.hid (show z ∈ L1 ↔ x ∈ L2 by rw [hL1, hL2]; exact near_symm hR (by show x < S.size; omega) (by show z < S.size; omega))
      have HNE := Lib.hid (show x = z → z ∉ L1 by intro e; rw [hL1, ← e]; exact near_ne hR (by show x < S.size; omega))
      unfold Flr.val at H1 H2
      simp only at H1 H2
      clear hL1 hL2 hn1 hn2 hR hm hx hz he
      go_enter Tryd.func4, Tryd.ntmps4
      go_wp2_with fail
      refine (HSH.out _).mono ?_
      rintro e w1 ⟨rfl, k1⟩
      have K1 := Lib.hid k1
      clear k1
      go_wp2_with fail
      refine (HP.out _).mono ?_
      rintro e w2 ⟨rfl, k2⟩
      have K2 := Lib.hid (K1.out.no k2)
      clear k2
      go_wp2_with fail
      obtain ⟨b1, hb1⟩ : ∃ b1, b1 = w2.heap.size := ⟨_, rfl⟩
      obtain ⟨w3, hw3⟩ : ∃ w3, w3 = w2.alloc (.cells #[.int .i64 (W : Int), .int .i64 (H : Int), .string S] 24) := ⟨_, rfl⟩
      have B3 := Lib.hid (show BxW (Flr.mk W H S) b1 w w3 by rw [hw3, hb1]; exact ⟨blk_new w2 _, K2.out.alloc _⟩)
      rw [← hw3, ← hb1]
      clear hw3 hb1 K2
      have hb0 : w3.cell? ⟨b1, 0, none⟩ = some (.int .i64 (W : Int)) := B3.out.c0
      have hb1 : w3.cell? ⟨b1, 1, none⟩ = some (.int .i64 (H : Int)) := B3.out.c1
      have hb2 : w3.cell? ⟨b1, 2, none⟩ = some (.string S) := B3.out.c2
      go_quiet (fail)
      obtain ⟨w4, hw4⟩ : ∃ w4, w4 = w3.drewN nq := ⟨_, rfl⟩
      have B4 := Lib.hid (show BxW (Flr.mk W H S) b1 w w4 by rw [hw4]; exact B3.out.no ((Kp.refl _ _).drewN _))
      rw [← hw4]
      clear hw4 hb0 hb1 hb2 hxI hzI hxJ hzJ hwx hwz hwm hwp hwq hm0 hm0' hml
      have hb0 : w4.cell? ⟨b1, 0, none⟩ = some (.int .i64 (W : Int)) := B4.out.c0
      have hb1 : w4.cell? ⟨b1, 1, none⟩ = some (.int .i64 (H : Int)) := B4.out.c1
      have hb2 : w4.cell? ⟨b1, 2, none⟩ = some (.string S) := B4.out.c2
      go_wp2_with fail
      refine (H1.out _).mono ?_
      rintro e w5 ⟨v5, rfl, ns5⟩
      obtain ⟨A5, q5, rfl⟩ := ns5.own.rd.shape
      rw [ints_len, ← HN1.out] at ns5 ⊢
      have NS5 := Lib.hid ns5; have B5 := Lib.hid (B4.out.no ns5.kp)
      clear ns5 hb0 hb1 hb2
      go_wp2_with fail
      go_loopg [13, 65] (n1 + 1) (fun g2 tv iv wx => ∃ (i : Nat) (b : Bool), g2 = n1 + 1 - i ∧ iv = .int .i64 i ∧ i ≤ n1 ∧ tv = .bool b ∧ b = anyTo L1 z i ∧ wx = w5)
      case atStart => exact ⟨0, false, rfl, rfl, by omega, rfl, rfl, rfl⟩
      case round =>
        obtain ⟨i, b, hg2, rfl, hi, rfl, hb, rfl⟩ := hrel
        have HB := Lib.hid hb
        clear hb
        by_cases hlt : i < n1
        · have hltI : (i : Int) < (n1 : Int) := by omega
          have hwi : IntKind.i64.wrap ((i : Int) + 1) = (i : Int) + 1 := IntWalk.i64_in _ (by omega)
          obtain ⟨c, hc⟩ : ∃ c, L1[i]? = some c := ⟨_, List.getElem?_eq_getElem (by rw [← HN1.out]; exact hlt)⟩
          rcases NS5.out.own.b with ⟨hv, _⟩ | ⟨gB, capB, hv, _, _, _⟩
          · simp only [Value.slice.injEq] at hv; omega
          simp only [Value.slice.injEq] at hv
          obtain ⟨rfl, hzz, rfl⟩ := hv
          clear hzz
          have hcb : wr.cell? ⟨gB, i, none⟩ = some (.int .i64 (c : Int)) := by have := NS5.out.own.rd.intAt (ints_get hc); simpa using this
          obtain ⟨t, ht⟩ : ∃ t : Bool, t = ((c : Int) == (z : Int)) := ⟨_, rfl⟩
          have htI := ht.symm
          have htN : (c == z) = t := by rw [ht, Bool.eq_iff_iff]; simp; omega
          have HB2 := Lib.hid (show (b || t) = anyTo L1 z (i + 1) by rw [anyTo_succ hc, ← HB.out, htN])
          clear ht hc hlt
          cases b with
          | false =>
            go_wp2_with fail
            go_roundg (n1 + 1 - (i + 1))
            case measure => omega
            case rel => exact ⟨i + 1, t, rfl, by go_num, by omega, rfl, by rw [← HB2.out]; simp, rfl⟩
          | true =>
            go_wp2_with fail
            go_roundg (n1 + 1 - (i + 1))
            case measure => omega
            case rel => exact ⟨i + 1, true, rfl, by go_num, by omega, rfl, by rw [← HB2.out]; simp, rfl⟩
        · obtain rfl : i = n1 := by omega
          have hd0 : ¬ (i : Int) < (i : Int) := by omega
          have HT := Lib.hid (show b = decide (z ∈ L1) by rw [HB.out, HN1.out]; exact anyTo_all _ _)
          have hb0 : wr.cell? ⟨b1, 0, none⟩ = some (.int .i64 (W : Int)) := B5.out.c0
          have hb1 : wr.cell? ⟨b1, 1, none⟩ = some (.int .i64 (H : Int)) := B5.out.c1
          have hb2 : wr.cell? ⟨b1, 2, none⟩ = some (.string S) := B5.out.c2
          clear hlt HB
          go_wp2_with fail
          refine (H2.out _).mono ?_
          rintro e w6 ⟨v6, rfl, ns6⟩
          obtain ⟨A6, q6, rfl⟩ := ns6.own.rd.shape
          rw [ints_len, ← HN2.out] at ns6 ⊢
          have NS6 := Lib.hid ns6; have B6 := Lib.hid (B5.out.no ns6.kp)
          clear ns6 hb0 hb1 hb2
          go_wp2_with fail
          go_loopg [14, 80] (n2 + 1) (fun g2 tv jv wx => ∃ (j : Nat) (c : Bool), g2 = n2 + 1 - j ∧ jv = .int .i64 j ∧ j ≤ n2 ∧ tv = .bool c ∧ c = anyTo L2 x j ∧ wx = w6)
          case atStart => exact ⟨0, false, rfl, rfl, by omega, rfl, rfl, rfl⟩
          case round =>
            obtain ⟨j, c, hg2, rfl, hj, rfl, hc0, rfl⟩ := hrel
            have HB := Lib.hid hc0
            clear hc0
            by_cases hlt : j < n2
            · have hltI : (j : Int) < (n2 : Int) := by omega
              have hwj : IntKind.i64.wrap ((j : Int) + 1) = (j : Int) + 1 := IntWalk.i64_in _ (by omega)
              obtain ⟨d, hd⟩ : ∃ d, L2[j]? = some d := ⟨_, List.getElem?_eq_getElem (by rw [← HN2.out]; exact hlt)⟩
              rcases NS6.out.own.b with ⟨hv, _⟩ | ⟨gB, capB, hv, _, _, _⟩
              · simp only [Value.slice.injEq] at hv; omega
              simp only [Value.slice.injEq] at hv
              obtain ⟨rfl, hzz, rfl⟩ := hv
              clear hzz
              have hcb : wr.cell? ⟨gB, j, none⟩ = some (.int .i64 (d : Int)) := by have := NS6.out.own.rd.intAt (ints_get hd); simpa using this
              obtain ⟨t, ht⟩ : ∃ t : Bool, t = ((d : Int) == (x : Int)) := ⟨_, rfl⟩
              have htI := ht.symm
              have htN : (d == x) = t := by rw [ht, Bool.eq_iff_iff]; simp; omega
              have HB2 := Lib.hid (show (c || t) = anyTo L2 x (j + 1) by rw [anyTo_succ hd, ← HB.out, htN])
              clear ht hd hlt
              cases c with
              | false =>
                go_wp2_with fail
                go_roundg (n2 + 1 - (j + 1))
                case measure => omega
                case rel => exact ⟨j + 1, t, rfl, by go_num, by omega, rfl, by rw [← HB2.out]; simp, rfl⟩
              | true =>
                go_wp2_with fail
                go_roundg (n2 + 1 - (j + 1))
                case measure => omega
                case rel => exact ⟨j + 1, true, rfl, by go_num, by omega, rfl, by rw [← HB2.out]; simp, rfl⟩
            · obtain rfl : j = n2 := by omega
              have hd0 : ¬ (j : Int) < (j : Int) := by omega
              have HC := Lib.hid (show c = b by
                rw [HT.out, HB.out, HN2.out, anyTo_all, Bool.eq_iff_iff]; simp [HSY.out])
              clear hlt HB
              obtain ⟨t, ht⟩ : ∃ t : Bool, t = ((x : Int) != (z : Int)) := ⟨_, rfl⟩
              have htI := ht.symm
              have htN : (x != z) = t := by rw [ht, Bool.eq_iff_iff]; simp; omega
              have HF := Lib.hid (show t = false → b = false by
                intro e
                have hxz : x = z := by rw [e] at htN; simpa using htN
                rw [HT.out]; simpa using HNE.out hxz)
              clear ht
              obtain rfl := HC.out
              cases c with
              | false =>
                cases t with
                | true =>
                  go_wp2_with fail
                  go_ret
                  exact ⟨rfl, B6.out.kp⟩
                | false =>
                  go_wp2_with fail
                  go_ret
                  exact ⟨rfl, B6.out.kp⟩
              | true =>
                cases t with
                | true =>
                  go_wp2_with fail
                  go_ret
                  exact ⟨rfl, B6.out.kp⟩
                | false => have := HF.out rfl; simp at this
    · have heb : ((er : Int) != 0) = true := by simp; omega
      have heb2 : (er != 0) = true := by simp; omega
      clear he
      go_enter Tryd.func4, Tryd.ntmps4
      go_wp2_with fail
      refine (HSH.out _).mono ?_
      rintro e w1 ⟨rfl, k1⟩
      have K1 := Lib.hid k1
      clear k1
      go_wp2_with fail
      refine (HP.out _).mono ?_
      rintro e w2 ⟨rfl, k2⟩
      have K2 := Lib.hid (K1.out.no k2)
      clear k2
      go_wp2_with fail
      go_ret
      exact ⟨rfl, K2.out.alloc _⟩
end Go.Proofs.YtolkkinophklcaaDoor
