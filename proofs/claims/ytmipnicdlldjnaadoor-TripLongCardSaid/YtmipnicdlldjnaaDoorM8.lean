/- trip: Make at all; carfaxref10.Same; carfaxlaw10: small, shown; carfaxlaw10: shown, small; A text's floor is no longer than the text; a text is cut; Arguments that are slices of rows: what they read as. No function of the program; Arguments: floors; Arguments: slices of ints; Arguments of carfaxlaw10: cases, acts; carfaxlaw10: small; a case's cells; TripLeft: the walk (written by bin/gen_l10.py); TripLong: the walk (written by bin/gen_l10.py). No condition. -/
import Derived.Test.YtmipnicdlldjnaaDoorM7
import Derived.Test.YtmipnicdlldjnaaDoorM3
import Derived.Test.YtmipnicdlldjnaaDoorM1
import Derived.Deep.Slices
import Derived.ProofKit
import Derived.OpenShut
import Derived.Lib.SmallJoins
import Derived.Test.YtmipnicdlldjnaaDoorM5

namespace Go.Proofs.YtmipnicdlldjnaaDoor
set_option linter.unusedVariables false
set_option linter.unusedSimpArgs false
open Go.RowKit

theorem tpMake_any (f : Flr) (hsz : f.s.size ≤ 1000000) (robot pod fr tg : Int) (hr : robot ≤ 9223372036854775807) (hfr : fr ≤ 9223372036854775807) (htg : tg ≤ 9223372036854775807) {bv : Value} {B : List Int} {w : World} (hB : Rd IK w bv B) :
    Calls Tryd.prog 9 #[f.val, .int .i64 robot, .int .i64 pod, .int .i64 fr, .int .i64 tg, bv] w (MakeO f robot pod fr tg B w) := by
  cases hmk : makeB f robot pod fr tg with
  | false => exact tpMake_arg f hsz robot pod fr tg hr hfr htg bv B w hmk
  | true =>
    have h := hmk
    unfold makeB at h
    simp only [Bool.and_eq_true, Bool.not_eq_true'] at h
    obtain ⟨⟨⟨⟨hd, ha⟩, hb⟩, _⟩, _⟩ := h
    obtain ⟨a, rfl, _⟩ := zone_okT ha
    obtain ⟨b, rfl, _⟩ := zone_okT hb
    obtain ⟨d, hd⟩ := Option.isSome_iff_exists.1 hd
    exact tpMake_ok f hsz robot pod a b d hr hB hmk hd
theorem neqA (x y : ActT) (b : Bool) (hb : b = !decide (x = y)) (w : World) : (binOp .neq 36 (.agg #[.int .u8 (x.k : Int), .int .i64 x.c, .int .i64 x.p]) (.agg #[.int .u8 (y.k : Int), .int .i64 y.c, .int .i64 y.p])).run Tryd.prog w = .ok (.bool b) w := by
  subst hb
  obtain ⟨k, c, p⟩ := x
  obtain ⟨k2, c2, p2⟩ := y
  have h : decide ((⟨k, c, p⟩ : ActT) = ⟨k2, c2, p2⟩) = (decide ((k : Int) = k2) && decide (c = c2) && decide (p = p2)) := by
    by_cases h1 : k = k2 <;> by_cases h2 : c = c2 <;> by_cases h3 : p = p2 <;> simp [h1, h2, h3] <;> omega
  rw [h]
  by_cases h1 : (k : Int) = k2 <;> by_cases h2 : c = c2 <;> by_cases h3 : p = p2 <;> simp [binOp, Op.equal, Op.maxDepth, go_sem, h1, h2, h3]
set_option maxHeartbeats 1000000 in
set_option maxRecDepth 100000 in
theorem same10_any {a b : Value} {l m : List ActT} {w : World} (ha : Rd AcK w a l) (hb : Rd AcK w b m) (hl : l.length ≤ 1000000) (hm : m.length ≤ 1000000) (r : Bool) (hr : r = decide (l = m)) :
    Calls Tryd.prog 18 #[a, b] w fun e w' => e = .returned (.bool r) ∧ Kp No w w' := by
  obtain ⟨A, ca, rfl⟩ := ha.shape
  obtain ⟨B, cb, rfl⟩ := hb.shape
  have HR := Lib.hid hr
  by_cases hlen : ¬ l.length = m.length
  · have hd : r = false := by rw [hr]; simp; intro e; exact hlen (by rw [e])
    subst hd
    have hne : ((l.length : Int) != (m.length : Int)) = true := by rw [bne_iff_ne]; omega
    clear hr hlen ha hb
    go_enter Tryd.func18, Tryd.ntmps18
    go_wp2
    go_ret
    exact ⟨rfl, Kp.refl _ _⟩
  · have hlen := Decidable.not_not.1 hlen
    have hne : ((l.length : Int) != (m.length : Int)) = false := by simp [hlen]
    have HL := Lib.hid hlen
    have HA := Lib.hid ha; have HB := Lib.hid hb
    clear hr hlen ha hb
    go_enter Tryd.func18, Tryd.ntmps18
    go_wp2
    go_loopw [5] (fun i wr => ∃ k : Nat, i = .int .i64 k ∧ k ≤ l.length ∧ (∀ j : Nat, j < k → l[j]? = m[j]?) ∧ Kp No w wr) (fun i _ => l.length - (intOf i).toNat)
    case atStart => exact ⟨0, rfl, by omega, by intros; omega, Kp.refl _ _⟩
    case round =>
      obtain ⟨k, rfl, hk, heq, hK⟩ := hrel
      by_cases hlt : k < l.length
      · obtain ⟨x, hx⟩ : ∃ x, l[k]? = some x := ⟨_, List.getElem?_eq_getElem hlt⟩
        have hkm : k < m.length := by have := HL.out; omega
        obtain ⟨y, hy⟩ : ∃ y, m[k]? = some y := ⟨_, List.getElem?_eq_getElem hkm⟩
        have RA := HA.out.kpNo hK
        have RB := HB.out.kpNo hK
        rcases RA with ⟨hv, he⟩ | ⟨g, o, c1, hv, _⟩
        · rw [he] at hlt; simp at hlt
        rcases RB with ⟨hv2, he⟩ | ⟨g2, o2, c2, hv2, _⟩
        · rw [he] at hkm; simp at hkm
        simp only [Value.slice.injEq] at hv hv2
        obtain ⟨rfl, _, rfl⟩ := hv
        obtain ⟨rfl, _, rfl⟩ := hv2
        obtain ⟨hx1, hx2, hx3, hx4⟩ := (HA.out.kpNo hK).actAt hx
        obtain ⟨hy1, hy2, hy3, hy4⟩ := (HB.out.kpNo hK).actAt hy
        have hltI : (k : Int) < (l.length : Int) := by omega
        have hltJ : (k : Int) < (m.length : Int) := by omega
        have HE := Lib.hid heq; have HK := Lib.hid hK; have HX := Lib.hid hx; have HY := Lib.hid hy
        clear heq hK hx hy
        by_cases hxy : x = y
        · subst hxy
          have hq := neqA x x false (by simp)
          go_wp2
          go_quiet (fail)
          go_wp2
          go_roundw
          case rel =>
            refine ⟨k + 1, by go_num, hlt, ?_, HK.out.drewN _⟩
            intro j hj
            by_cases hjk : j = k
            · subst hjk; rw [HX.out, HY.out]
            · exact HE.out j (by omega)
          case measure => simp [intOf]; omega
        · have hq := neqA x y true (by simp [hxy])
          have hd : r = false := by
            rw [HR.out]; simp
            rintro rfl
            have := HX.out.symm.trans HY.out
            simp only [Option.some.injEq] at this
            exact hxy this
          subst hd
          go_wp2
          go_quiet (fail)
          go_wp2
          go_ret
          exact ⟨rfl, HK.out.drewN _⟩
      · obtain rfl : k = l.length := by omega
        have hd0 : ¬ (l.length : Int) < (l.length : Int) := by omega
        have hd : r = true := by
          rw [HR.out]; simp
          refine List.ext_getElem? fun j => ?_
          rcases Nat.lt_or_ge j l.length with h | h
          · exact heq j h
          · rw [List.getElem?_eq_none h, List.getElem?_eq_none (by rw [← HL.out]; exact h)]
        subst hd
        have HK := Lib.hid hK
        clear heq hK
        go_wp2
        go_ret
        exact ⟨rfl, HK.out⟩
end Go.Proofs.YtmipnicdlldjnaaDoor

namespace Go.Proofs.YtmipnicdlldjnaaDoor
set_option linter.unusedVariables false
set_option linter.unusedSimpArgs false
open Go.RowKit

set_option maxHeartbeats 1000000 in
set_option maxRecDepth 100000 in
theorem shown10_any (w : World) : Calls Tryd.prog 7 #[] w fun e w' => e = .returned (.bool true) ∧ Kp No w w' := by
  have hpS := Lib.hid (parse_at _ (by decide) _ parse_10 (.tuple #[.agg #[.int .i64 5, .int .i64 1, .string f10.s], .int .i64 0, .int .i64 0]) rfl)
  have MK := Lib.hid (show ∀ w, Calls Tryd.prog 9 #[.agg #[.int .i64 5, .int .i64 1, .string f10.s], .int .i64 0, .int .i64 5, .int .i64 2, .int .i64 3, .slice none 0 0] w fun e w' => ∃ A q, e = .returned (.tuple #[.slice A 8 q, .int .i64 0]) ∧ NewS AcK 36 w w' (.slice A 8 q) want10 from fun w => by
    refine (tpMake_any f10 (by decide) 0 5 2 3 (by decide) (by decide) (by decide) (Rd.nil IK w)).mono ?_
    rintro e w' ⟨out, A, q, er, hm, rfl, ns⟩
    obtain ⟨rfl, rfl⟩ := make_10 hm
    exact ⟨A, q, rfl, ns⟩)
  have ZN := Lib.hid (show ∀ w v, Rd AcK w v want10 → Calls Tryd.prog 17 #[.agg #[.int .i64 5, .int .i64 1, .string f10.s], v] w fun e w' => ∃ v', e = .returned v' ∧ Rd IK w' v' [0, 1] ∧ Kp No w w' from fun w v hv => by
    have := tpZones_any f10 (by decide) hv (by decide) (by decide)
    rw [zones_10] at this
    exact this)
  have CS := Lib.hid (show ∀ w v, Rd AcK w v want10 → Calls Tryd.prog 16 #[v] w fun e w' => e = .returned (.int .i64 6) ∧ Kp No w w' from fun w v hv => by
    have := tpCost_any hv (by decide)
    rw [cost_10] at this
    exact this)
  have LW := Lib.hid (show ∀ w : World, Rd AcK (w.alloc (.cells #[.int .u8 1, .int .i64 1, .int .i64 0, .int .u8 1, .int .i64 2, .int .i64 0, .int .u8 2, .int .i64 2, .int .i64 5, .int .u8 1, .int .i64 3, .int .i64 0, .int .u8 3, .int .i64 3, .int .i64 5, .int .u8 1, .int .i64 2, .int .i64 0, .int .u8 1, .int .i64 1, .int .i64 0, .int .u8 1, .int .i64 0, .int .i64 0] 36)) (.slice (some ⟨w.heap.size, 0, none⟩) 8 8) want10 from fun w => Rd.litAt AcK 36 w _ want10 rfl (by unfold maxLen; decide) _ _ rfl rfl)
  have LI := Lib.hid (show ∀ w : World, Rd IK (w.alloc (.cells #[.int .i64 0, .int .i64 1] 3)) (.slice (some ⟨w.heap.size, 0, none⟩) 2 2) [0, 1] from fun w => Rd.litAt IK 3 w _ [0, 1] rfl (by unfold maxLen; simp) _ _ rfl rfl)
  have SA := Lib.hid (show ∀ w v v2, Rd AcK w v want10 → Rd AcK w v2 want10 → Calls Tryd.prog 18 #[v, v2] w fun e w' => e = .returned (.bool true) ∧ Kp No w w' from fun w v v2 h1 h2 => same10_any h1 h2 (by decide) (by decide) true (by simp))
  simp only [f10] at hpS
  obtain ⟨S, hS⟩ : ∃ S, S = f10.s := ⟨_, rfl⟩
  rw [← hS] at MK ZN
  rw [show (⟨#[48, 97, 97, 98, 49]⟩ : ByteArray) = S from hS.symm] at hpS
  clear hS
  go_enter Tryd.func7, Tryd.ntmps7
  go_wp2_with fail
  refine (hpS.out _).mono ?_
  rintro e w1 ⟨rfl, k1⟩
  have K1 := Lib.hid (k1.alloc (.cells #[.int .i64 5, .int .i64 1, .string S] 23))
  obtain ⟨b1, hb1⟩ : ∃ b1, b1 = w1.heap.size := ⟨_, rfl⟩
  obtain ⟨w2, hw2⟩ : ∃ w2, w2 = w1.alloc (.cells #[.int .i64 5, .int .i64 1, .string S] 23) := ⟨_, rfl⟩
  have BX := Lib.hid (show w2.heap[b1]? = some (.cells #[.int .i64 5, .int .i64 1, .string S] 23 (0, 0)) by rw [hw2, hb1]; exact blk_new w1 _)
  rw [← hw2] at K1
  have HW2 := Lib.hid hw2; have HB1 := Lib.hid hb1
  clear k1 hw2 hb1
  have lb : ∀ wx, Kp No w2 wx → wx.cell? ⟨b1, 0, none⟩ = some (.int .i64 5) ∧ wx.cell? ⟨b1, 1, none⟩ = some (.int .i64 1) ∧ wx.cell? ⟨b1, 2, none⟩ = some (.string S) := fun wx hk => by
    have := hk.blk BX.out (no_no _)
    exact ⟨blk_cell this 0, blk_cell this 1, blk_cell this 2⟩
  have LB := Lib.hid lb
  clear lb
  go_upto_region 2 with fail
  rw [← HW2.out, ← HB1.out]
  obtain ⟨hc0, hc1, hc2⟩ := LB.out w2 (Kp.refl _ _)
  go_wp2_with fail
  refine (MK.out _).mono ?_
  rintro e w3 ⟨A3, q3, rfl, n3⟩
  have N3 := Lib.hid n3
  clear n3 hc0 hc1 hc2
  go_wp2_with fail
  refine (SA.out _ _ _ (N3.out.own.rd.alloc _) (LW.out w3)).mono ?_
  rintro e w4 ⟨rfl, k4⟩
  have K4 := Lib.hid (((Kp.refl No w3).alloc _).no k4)
  clear k4
  go_wp2_with fail
  refine (CS.out _ _ (N3.out.own.rd.kpNo K4.out)).mono ?_
  rintro e w5 ⟨rfl, k5⟩
  have K5 := Lib.hid (K4.out.no k5)
  clear k5
  obtain ⟨hc0, hc1, hc2⟩ := LB.out w5 (N3.out.kp.no K5.out)
  go_wp2_with fail
  refine (ZN.out _ _ (N3.out.own.rd.kpNo K5.out)).mono ?_
  rintro e w6 ⟨v6, rfl, r6, k6⟩
  have R6 := Lib.hid r6
  have K6 := Lib.hid (K5.out.no k6)
  clear k6 r6 hc0 hc1 hc2
  go_wp2_with fail
  refine (sameInts_any (R6.out.alloc _) (LI.out w6) true (by decide)).mono ?_
  rintro e w7 ⟨rfl, k7⟩
  have K7 := Lib.hid (K1.out.no (N3.out.kp.no ((K6.out.alloc (.cells #[.int .i64 0, .int .i64 1] 3)).no k7)))
  clear k7
  go_wp2_with fail
  go_ret
  exact ⟨rfl, K7.out⟩
end Go.Proofs.YtmipnicdlldjnaaDoor

namespace Go.Proofs.YtmipnicdlldjnaaDoor
set_option linter.unusedVariables false
set_option linter.unusedSimpArgs false
open Go.RowKit

theorem pcs_flatL (l : List UInt8) : (pcs l).flatten.length ≤ l.length := by
  induction l with
  | nil => simp [pcs]
  | cons c l ih =>
    unfold pcs
    split
    · simp only [List.flatten_cons, List.nil_append, List.length_cons]; omega
    · split
      · rename_i h; simp
      · rename_i p ps h
        rw [h] at ih
        simp only [List.flatten_cons, List.length_append, List.length_cons] at ih ⊢
        omega
theorem rowsL_flat (l : List UInt8) : (rowsL l).flatten.length ≤ l.length := by
  have h := pcs_flatL l
  obtain ⟨L, cur, e⟩ : ∃ L cur, pcs l = L ++ [cur] := ⟨_, _, (List.dropLast_concat_getLast (pcs_ne l)).symm⟩
  rw [rowsL_of e]
  rw [e] at h
  split
  · simp only [List.flatten_append, List.length_append] at h
    omega
  · exact h
theorem parseP_size (s : ByteArray) : (parseP s).1.s.size ≤ s.size := by
  have h : (joinB (rowsB s)).size ≤ s.size := by
    unfold joinB rowsB
    rw [mkB_size, List.map_map]
    have e : ((fun x : ByteArray => x.data.toList) ∘ mkB) = id := by funext x; exact mkB_list x
    rw [e, List.map_id, Lib.size_eq s]
    exact rowsL_flat _
  unfold parseP
  cases h1 : badRow (rowsB s) with
  | some y => simp only; show (0 : Nat) ≤ _; omega
  | none =>
    simp only
    split
    · exact h
    · show (0 : Nat) ≤ _; omega
theorem rightB_pos {f : Flr} (h : rightB f = true) : 0 < f.s.size := by
  have r := rightB_iff.1 h
  have := Int.mul_pos (show 0 < f.W by have := r.w1; omega) (show 0 < f.H by have := r.h1; omega)
  have := r.len
  omega
def fT3 : Flr := ⟨5, 3, ⟨#[48, 97, 97, 98, 49, 35, 99, 35, 100, 35, 50, 101, 101, 102, 102]⟩⟩
theorem fT3_right : rightB fT3 = true := rightC_ok (W := 5) (H := 3) (by kernel_rfl)
theorem parse_T3 : parseP ⟨#[48, 97, 97, 98, 49, 10, 35, 99, 35, 100, 35, 10, 50, 101, 101, 102, 102, 10]⟩ = (fT3, 0, 0) := parseP_of (W := 5) (H := 3) (R := [⟨#[48, 97, 97, 98, 49]⟩, ⟨#[35, 99, 35, 100, 35]⟩, ⟨#[50, 101, 101, 102, 102]⟩]) (by kernel_rfl) (by kernel_rfl) (by kernel_rfl) (by kernel_rfl) (by kernel_rfl) (by kernel_rfl)
theorem run_slice_str (s : ByteArray) (hi : Nat) (h : hi ≤ s.size) (x : Int) (hx : x = hi) (w : World) : (Instr.slice 9 (.string s) none (some (.int .i64 x)) none).run Tryd.prog w = .ok (.string (s.extract 0 hi)) w := by
  subst hx
  simp [Instr.slice, Instr.sliceBounds, Instr.sliceBound, run_underlying Tryd.underlying9, asIntOf, h]
end Go.Proofs.YtmipnicdlldjnaaDoor

namespace Go.Proofs.YtmipnicdlldjnaaDoor
set_option linter.unusedVariables false
set_option linter.unusedSimpArgs false
open Go.RowKit

/-- v, that came in, reads as l. -/
def RdA {α : Type} (K : Kd α) (w : World) (v : Value) (l : List α) : Prop :=
  ∃ A cap, v = .slice A l.length cap ∧ ∀ i x, l[i]? = some x → ∃ g o, A = some ⟨g, o, none⟩ ∧ ∀ j u, (K.enc x)[j]? = some u → w.cell? ⟨g, o + i * K.sz + j, none⟩ = some u

theorem Rd.a {α : Type} {K : Kd α} {w : World} {v : Value} {l : List α} (h : Rd K w v l) : RdA K w v l := by
  have h' := h
  rcases h with ⟨⟨A, c, rfl⟩, rfl⟩ | ⟨g, o, cap, rfl, _⟩
  · exact ⟨A, c, rfl, by simp⟩
  · exact ⟨_, cap, rfl, fun i x hx => ⟨g, o, rfl, fun j u hu => h'.at rfl hx hu⟩⟩
theorem RdA.kpNo {α : Type} {K : Kd α} {w w' : World} {v : Value} {l : List α} (h : RdA K w v l) (hk : Kp No w w') : RdA K w' v l :=
  let ⟨A, cap, hv, hc⟩ := h
  ⟨A, cap, hv, fun i x hx => let ⟨g, o, hA, hu⟩ := hc i x hx; ⟨g, o, hA, fun j u hj => hk.cellS (hu j u hj) (no_no _)⟩⟩
theorem RdA.shape {α : Type} {K : Kd α} {w : World} {v : Value} {l : List α} (h : RdA K w v l) : ∃ A cap, v = .slice A l.length cap := let ⟨A, cap, hv, _⟩ := h; ⟨A, cap, hv⟩
theorem RdA.take {α : Type} {K : Kd α} {w : World} {A : Option Addr} {n cap : Nat} {l : List α} (h : RdA K w (.slice A n cap) l) (m : Nat) : RdA K w (.slice A (min m n) cap) (l.take m) := by
  obtain ⟨A', cap', hv, hc⟩ := h
  simp only [Value.slice.injEq] at hv
  obtain ⟨rfl, rfl, rfl⟩ := hv
  refine ⟨A, cap, by simp, fun i x hx => ?_⟩
  rw [List.getElem?_take] at hx
  split at hx
  · exact hc i x hx
  · cases hx
theorem RdA.at {α : Type} {K : Kd α} {w : World} {A : Option Addr} {n cap : Nat} {l : List α} (h : RdA K w (.slice A n cap) l) {i : Nat} {x : α} (hx : l[i]? = some x) :
    ∃ g o, A = some ⟨g, o, none⟩ ∧ ∀ j u, (K.enc x)[j]? = some u → w.cell? ⟨g, o + i * K.sz + j, none⟩ = some u := by
  obtain ⟨A', cap', hv, hc⟩ := h
  simp only [Value.slice.injEq] at hv
  obtain ⟨rfl, rfl, rfl⟩ := hv
  exact hc i x hx

/-- 's[:hi]' of whatever came in. -/
theorem run_slice_hiA {α : Type} {K : Kd α} {P : Program} {t e : TypeId} {bytes : Nat} (E : ElT P t e K bytes) (A : Option Addr) (n cap hi : Nat) (h : hi ≤ cap) (x : Int) (hx : x = hi) (w : World) :
    (Instr.slice t (.slice A n cap) none (some (.int .i64 x)) none).run P w = .ok (.slice A hi cap) w := by
  subst hx
  obtain ⟨ht, i, z, hi', hz, hsize, hby, hzs⟩ := E
  have hA : (if cap = 0 then A else A.map (·.add (0 * i.size))) = A := by
    split
    · rfl
    · cases A <;> simp [Addr.add]
  simp only [Nat.zero_mul] at hA
  simp [Instr.slice, Instr.sliceBounds, Instr.sliceBound, run_underlying ht, sizeOf, typeInfo, hi', asIntOf, h, hA]

theorem list_of {α : Type} (Q : Nat → α → Prop) : ∀ n, (∀ i, i < n → ∃ x, Q i x) → ∃ l : List α, l.length = n ∧ ∀ i x, l[i]? = some x → Q i x
  | 0, _ => ⟨[], rfl, by simp⟩
  | n + 1, h => by
    obtain ⟨l, hl, hq⟩ := list_of Q n fun i hi => h i (by omega)
    obtain ⟨x, hx⟩ := h n (by omega)
    refine ⟨l ++ [x], by simp [hl], fun i y hy => ?_⟩
    rw [List.getElem?_append] at hy
    split at hy
    · exact hq i y hy
    · rename_i hi
      have : i = l.length := by
        have := (List.getElem?_eq_some_iff.1 hy).1
        simp at this; omega
      subst this
      simp at hy
      subst hy
      rw [hl]; exact hx

theorem open_rows {α : Type} {K : Kd α} {H : Type} {enc : TypeId × Value → H} {P : Program} {w : World} {base : Nat} {spare : Nat → Bool} {held : Bool} {t e : TypeId} {fuel : Nat} {v : Value} {x : DataW H × List MemPlace} (Good : α → Prop)
    (ht : P.underlying t = some (.slice e)) (hC : P.cellsOf e = K.sz) (dec : ∀ n cs' y, DataW.trod enc P w base spare held n e cs' = some y → ∃ x : α, cs' = K.enc x ∧ Good x)
    (h : DataW.trod enc P w base spare held fuel t [v] = some x) : ∃ l : List α, RdA K w v l ∧ (∀ x ∈ l, Good x) ∧ ∃ A cap, v = .slice A l.length cap ∧ l.length ≤ cap ∧ cap ≤ maxLen := by
  rcases Go.Deep.open_slice ht h with ⟨h0, _⟩ | ⟨a, len, cap, m, n, D, Pl, hcs, hb, hl, hm, hmm, hx, hi⟩
  · simp at h0
    exact ⟨[], ⟨none, 0, h0, by simp⟩, by simp, none, 0, h0, by simp, by simp⟩
  · simp at hcs
    have hml : len ≤ m := by rw [hmm]; split <;> omega
    have hsp : 0 < len → a = ⟨a.block, a.off, none⟩ := by
      intro h0
      obtain ⟨cs', hc, ht'⟩ := hi 0 (by omega)
      obtain ⟨y, rfl, _⟩ := dec n cs' _ ht'
      obtain ⟨_, hcl, hat⟩ := World.cells?_some hc
      have h1 := hat 0 (by rw [hC]; exact K.pos)
      rw [List.getElem?_eq_getElem (by rw [K.len y]; exact K.pos), Nat.zero_mul] at h1
      have := World.cell?_spot h1
      simp only [Addr.add, if_true] at this
      obtain ⟨b, o, sp⟩ := a
      simp only at this
      rw [this]
    obtain ⟨l, hll, hq⟩ := list_of (fun i (x : α) => Good x ∧ ∃ g o, some a = some (⟨g, o, none⟩ : Addr) ∧ ∀ j u, (K.enc x)[j]? = some u → w.cell? ⟨g, o + i * K.sz + j, none⟩ = some u) len fun i hil => by
      obtain ⟨cs', hc, ht'⟩ := hi i (by omega)
      obtain ⟨y, rfl, hg⟩ := dec n cs' _ ht'
      obtain ⟨_, hcl, hat⟩ := World.cells?_some hc
      rw [hC] at hat
      have ha := hsp (by omega)
      refine ⟨y, hg, a.block, a.off, congrArg some ha, fun j u hj => ?_⟩
      have hjl : j < K.sz := by rw [← K.len y]; exact (List.getElem?_eq_some_iff.1 hj).1
      have := hat j hjl
      rw [ha] at this
      simp only [Addr.add_lit] at this
      rw [this, hj]
    subst hll
    exact ⟨l, ⟨some a, cap, hcs, fun i x hx => (hq i x hx).2⟩, fun x hx => by obtain ⟨i, hil, rfl⟩ := List.getElem_of_mem hx; exact (hq i _ (List.getElem?_eq_getElem hil)).1, some a, cap, hcs, hl, hm⟩
end Go.Proofs.YtmipnicdlldjnaaDoor

namespace Go.Proofs.YtmipnicdlldjnaaDoor
set_option linter.unusedVariables false
set_option linter.unusedSimpArgs false
open Go.ChangeShapes Go.WideShapes Go.ChangeAt Go.RowKit Go.Joins

section
variable {H : Type} {enc : TypeId × Value → H} {w : World} {base : Nat} {spare : Nat → Bool} {held : Bool}
set_option maxRecDepth 100000 in
theorem open_floor {v : Value} {d : DataW H} {p : List MemPlace} {r : Reach} {b0 : Nat} (hv : Value.okWide Tryd.prog w r b0 23 v) (h : DataW.Trod enc Tryd.prog w base spare held 23 v d p) :
    ∃ f : Flr, v = f.val ∧ f.s.size ≤ 9223372036854775807 := by
  obtain ⟨v0, v1, v2, y0, y1, y2, n, rfl, _, _, h0, h1, h2⟩ := open_agg3 Tryd.underlying23 (by kernel_rfl) (by kernel_rfl) hv h
  obtain ⟨a, e0, _, _⟩ := DataW.trod_int Tryd.underlying3 h0
  obtain ⟨b, e1, _, _⟩ := DataW.trod_int Tryd.underlying3 h1
  obtain ⟨s, e2, _, hs⟩ := DataW.trod_string Tryd.underlying9 h2
  simp at e0 e1 e2
  subst e0 e1 e2
  exact ⟨⟨a, b, s⟩, rfl, hs⟩
end
end Go.Proofs.YtmipnicdlldjnaaDoor

namespace Go.Proofs.YtmipnicdlldjnaaDoor
set_option linter.unusedVariables false
set_option linter.unusedSimpArgs false
open Go.ChangeShapes Go.WideShapes Go.ChangeAt Go.RowKit Go.Joins
section
variable {H : Type} {enc : TypeId × Value → H} {w : World} {base : Nat} {spare : Nat → Bool} {held : Bool}
theorem int_dec {n : Nat} {cs : List Value} {y : DataW H × List MemPlace} (h : DataW.trod enc Tryd.prog w base spare held n 3 cs = some y) : ∃ x : Int, cs = IK.enc x ∧ True := by
  obtain ⟨k, e0, _, wk⟩ := DataW.trod_int Tryd.underlying3 h
  exact ⟨k, by rw [e0]; rfl, trivial⟩
theorem RdA.rd' {α : Type} {K : Kd α} {w : World} {A : Option Addr} {cap : Nat} {l : List α} (h : RdA K w (.slice A l.length cap) l) (h3 : l.length ≤ cap) (h4 : cap ≤ maxLen) : Rd K w (.slice A l.length cap) l := by
  obtain ⟨A', cap', e, hi⟩ := h
  simp only [Value.slice.injEq] at e
  obtain ⟨rfl, _, rfl⟩ := e
  by_cases h0 : l = []
  · subst h0; exact .inl ⟨⟨A, cap, rfl⟩, rfl⟩
  · obtain ⟨x, hx⟩ : ∃ x, l[0]? = some x := ⟨_, List.getElem?_eq_getElem (by cases l with | nil => exact absurd rfl h0 | cons _ _ => simp)⟩
    obtain ⟨g, o, rfl, _⟩ := hi 0 x hx
    refine .inr ⟨g, o, cap, rfl, h3, h4, fun j u hu => ?_⟩
    have hjl : j < l.length * K.sz := by rw [← K.length_encs]; exact (List.getElem?_eq_some_iff.1 hu).1
    have hp := K.pos
    have hq : j / K.sz < l.length := Nat.div_lt_of_lt_mul (by rw [Nat.mul_comm]; exact hjl)
    obtain ⟨y, hy⟩ : ∃ y, l[j / K.sz]? = some y := ⟨_, List.getElem?_eq_getElem hq⟩
    obtain ⟨g', o', e2, hc⟩ := hi _ y hy
    simp only [Option.some.injEq, Addr.mk.injEq] at e2
    obtain ⟨rfl, rfl, _⟩ := e2
    have hm : j % K.sz < K.sz := Nat.mod_lt _ hp
    have he := K.encs_get l (j / K.sz) (j % K.sz) y hy hm
    have hj : j / K.sz * K.sz + j % K.sz = j := Nat.div_add_mod' j K.sz
    rw [hj, hu] at he
    have := hc _ u he.symm
    rw [Nat.add_assoc, hj] at this
    exact this
set_option maxRecDepth 100000 in
theorem open_ints {v : Value} {d : DataW H} {p : List MemPlace} {r : Reach} {b0 : Nat} (hv : Value.okWide Tryd.prog w r b0 24 v) (h : DataW.Trod enc Tryd.prog w base spare held 24 v d p) : ∃ l : List Int, Rd IK w v l := by
  obtain ⟨a0, len, cap, rfl⟩ := okWide_slice Tryd.underlying24 hv
  obtain ⟨fuel, hf⟩ := h
  obtain ⟨l, h1, h2, A, cap, e, h3, h4⟩ := open_rows (K := IK) (fun _ : Int => True) Tryd.underlying24 (by kernel_rfl) (fun n cs' y hy => int_dec hy) hf
  rw [e] at h1 ⊢
  exact ⟨l, h1.rd' h3 h4⟩
end
end Go.Proofs.YtmipnicdlldjnaaDoor

namespace Go.Proofs.YtmipnicdlldjnaaDoor
set_option linter.unusedVariables false
set_option linter.unusedSimpArgs false
open Go.ChangeShapes Go.WideShapes Go.ChangeAt Go.RowKit Go.Joins

theorem wf_le {n : Int} (h : (Lit.int .i64 n).wf = true) : n ≤ 9223372036854775807 := by
  unfold Lit.wf at h
  simp only [Bool.and_eq_true, decide_eq_true_eq] at h
  have : IntKind.i64.max = 9223372036854775807 := by decide
  omega
/-- A case: a floor, a robot, a pod, where from and where to, cells that are blocked. -/
structure Cb where
  f : Flr
  rb : Int
  pod : Int
  fr : Int
  tg : Int
  bv : Value
  B : List Int
def Cb.val (x : Cb) : Value := .agg #[.int .i64 x.f.W, .int .i64 x.f.H, .string x.f.s, .int .i64 x.rb, .int .i64 x.pod, .int .i64 x.fr, .int .i64 x.tg, x.bv]
structure Cb.Ok (x : Cb) (w : World) : Prop where
  sz : x.f.s.size ≤ 9223372036854775807
  rb : x.rb ≤ 9223372036854775807
  fr : x.fr ≤ 9223372036854775807
  tg : x.tg ≤ 9223372036854775807
  rd : Rd IK w x.bv x.B
section
variable {H : Type} {enc : TypeId × Value → H} {w : World} {base : Nat} {spare : Nat → Bool} {held : Bool}
set_option maxRecDepth 100000 in
theorem floorX_dec {n : Nat} {cs : List Value} {y : DataW H × List MemPlace} (h : DataW.trod enc Tryd.prog w base spare held n 23 cs = some y) : ∃ f : Flr, cs = [.int .i64 f.W, .int .i64 f.H, .string f.s] ∧ f.s.size ≤ 9223372036854775807 := by
  obtain ⟨ys, n', rfl, hy, hlen, hyl, hf⟩ := DataW.trod_struct Tryd.underlying23 h
  have hc : Tryd.prog.cellsOf 23 = 3 := by kernel_rfl
  have hi : Tryd.prog.cellsOf 3 = 1 := by kernel_rfl
  have hs : Tryd.prog.cellsOf 9 = 1 := by kernel_rfl
  rw [hc] at hlen
  match cs, hlen with
  | [c0, c1, c2], _ =>
    match ys, hyl with
    | [y0, y1, y2], _ =>
      have h0 := hf 0 _ rfl
      have h1 := hf 1 _ rfl
      have h2 := hf 2 _ rfl
      simp [hi, hs] at h0 h1 h2
      obtain ⟨a, e0, _, _⟩ := DataW.trod_int Tryd.underlying3 h0
      obtain ⟨b, e1, _, _⟩ := DataW.trod_int Tryd.underlying3 h1
      obtain ⟨s, e2, _, hb⟩ := DataW.trod_string Tryd.underlying9 h2
      simp at e0 e1 e2
      exact ⟨⟨a, b, s⟩, by rw [e0, e1, e2], hb⟩
set_option maxRecDepth 100000 in
theorem intsX_dec {n : Nat} {v : Value} {y : DataW H × List MemPlace} (h : DataW.trod enc Tryd.prog w base spare held n 24 [v] = some y) : ∃ l : List Int, Rd IK w v l := by
  obtain ⟨l, h1, h2, A, cap, e, h3, h4⟩ := open_rows (K := IK) (fun _ : Int => True) Tryd.underlying24 (by kernel_rfl) (fun n cs' y hy => int_dec hy) h
  rw [e] at h1 ⊢
  exact ⟨l, h1.rd' h3 h4⟩
set_option maxRecDepth 100000 in
theorem open_case10 {v : Value} {d : DataW H} {p : List MemPlace} {r : Reach} {b0 : Nat} (hv : Value.okWide Tryd.prog w r b0 26 v) (h : DataW.Trod enc Tryd.prog w base spare held 26 v d p) :
    ∃ x : Cb, v = x.val ∧ x.Ok w := by
  obtain ⟨cs, rfl, hsz⟩ := okWide_struct Tryd.underlying26 hv
  obtain ⟨fuel, hf0⟩ := h
  have hf1 : DataW.trod enc Tryd.prog w base spare held fuel 26 cs.toList = some (d, p) := hf0
  obtain ⟨ys, n', rfl, hy, hlen, hyl, hf⟩ := DataW.trod_struct Tryd.underlying26 hf1
  have hc : Tryd.prog.cellsOf 26 = 8 := by kernel_rfl
  have hi : Tryd.prog.cellsOf 3 = 1 := by kernel_rfl
  have hF : Tryd.prog.cellsOf 23 = 3 := by kernel_rfl
  have hR : Tryd.prog.cellsOf 24 = 1 := by kernel_rfl
  rw [hc] at hlen
  obtain ⟨l, hl⟩ : ∃ l, l = cs.toList := ⟨_, rfl⟩
  have hcs : cs = l.toArray := by rw [hl]
  rw [← hl] at hlen hf
  clear hf0 hf1 hl hy hsz hv
  subst hcs
  match l, hlen with
  | [c0, c1, c2, c3, c4, c5, c6, c7], _ =>
    match ys, hyl with
    | [y0, y1, y2, y3, y4, y5], _ =>
      have h0 := hf 0 _ rfl
      have h1 := hf 1 _ rfl
      have h2 := hf 2 _ rfl
      have h3 := hf 3 _ rfl
      have h4 := hf 4 _ rfl
      have h5 := hf 5 _ rfl
      simp [hi, hF, hR] at h0 h1 h2 h3 h4 h5
      obtain ⟨f, e0, hb⟩ := floorX_dec h0
      obtain ⟨a, e1, _, w1⟩ := DataW.trod_int Tryd.underlying3 h1
      obtain ⟨b, e2, _, w2⟩ := DataW.trod_int Tryd.underlying3 h2
      obtain ⟨c, e3, _, w3⟩ := DataW.trod_int Tryd.underlying3 h3
      obtain ⟨e, e4, _, w4⟩ := DataW.trod_int Tryd.underlying3 h4
      obtain ⟨L, rL⟩ := intsX_dec h5
      simp at e0 e1 e2 e3 e4
      exact ⟨⟨f, a, b, c, e, c7, L⟩, by rw [e0.1, e0.2.1, e0.2.2, e1, e2, e3, e4]; rfl, ⟨hb, wf_le w1, wf_le w3, wf_le w4, rL⟩⟩
end
end Go.Proofs.YtmipnicdlldjnaaDoor

namespace Go.Proofs.YtmipnicdlldjnaaDoor
set_option linter.unusedVariables false
set_option linter.unusedSimpArgs false
open Go.RowKit

theorem case10_cells {w1 wx : World} {b : Nat} {X Y : Int} {s : ByteArray} {rb pod fr tg : Int} {bv : Value} (h : w1.heap[b]? = some (.cells #[.int .i64 X, .int .i64 Y, .string s, .int .i64 rb, .int .i64 pod, .int .i64 fr, .int .i64 tg, bv] 26 (0, 0))) (hk : Kp No w1 wx) :
    wx.cell? ⟨b, 0, none⟩ = some (.int .i64 X) ∧ wx.cell? ⟨b, 1, none⟩ = some (.int .i64 Y) ∧ wx.cell? ⟨b, 2, none⟩ = some (.string s) ∧ wx.cell? ⟨b, 3, none⟩ = some (.int .i64 rb) ∧ wx.cell? ⟨b, 4, none⟩ = some (.int .i64 pod) ∧ wx.cell? ⟨b, 5, none⟩ = some (.int .i64 fr) ∧ wx.cell? ⟨b, 6, none⟩ = some (.int .i64 tg) ∧ wx.cell? ⟨b, 7, none⟩ = some bv := by
  have b := hk.blk h (no_no _)
  exact ⟨blk_cell b 0, blk_cell b 1, blk_cell b 2, blk_cell b 3, blk_cell b 4, blk_cell b 5, blk_cell b 6, blk_cell b 7⟩
set_option maxRecDepth 100000 in
theorem small10_any (x : Cb) {w : World} (hx : x.Ok w) (t : Bool) (ht : t = (decide (x.f.s.size ≤ 60) && decide (x.B.length ≤ 30))) (w : World) :
    Calls Tryd.prog 8 #[x.val] w fun e w' => e = .returned (.bool t) ∧ Kp No w w' := by
  obtain ⟨A, cap, hbv⟩ := hx.rd.shape
  have hll := hx.rd.lenI
  unfold maxLen at hll
  obtain ⟨f, rb, pod, fr, tg, bv, B⟩ := x
  obtain ⟨hsz, -, -, -, -⟩ := hx
  simp only at hbv ht hll hsz
  subst hbv
  obtain ⟨X, Y, s⟩ := f
  simp only at ht hsz
  unfold Cb.val
  simp only
  obtain ⟨nb, hnb⟩ : ∃ z, z = B.length := ⟨_, rfl⟩
  rw [← hnb] at ht hll ⊢
  obtain ⟨w1, hw1⟩ : ∃ y : World, y = w.alloc (.cells #[.int .i64 X, .int .i64 Y, .string s, .int .i64 rb, .int .i64 pod, .int .i64 fr, .int .i64 tg, .slice A nb cap] 26) := ⟨_, rfl⟩
  have BX := Lib.hid (show w1.heap[w.heap.size]? = some (.cells #[.int .i64 X, .int .i64 Y, .string s, .int .i64 rb, .int .i64 pod, .int .i64 fr, .int .i64 tg, .slice A nb cap] 26 (0, 0)) by rw [hw1]; exact blk_new w _)
  have K1 := Lib.hid (show Kp No w w1 by rw [hw1]; exact (Kp.refl _ _).alloc _)
  have HW1 := Lib.hid hw1
  obtain ⟨c0, c1, c2, c3, c4, c5, c6, c7⟩ := case10_cells BX.out (Kp.refl _ _)
  obtain ⟨n, hn⟩ : ∃ n, n = s.size := ⟨_, rfl⟩
  have hnI : ((s.size : Nat) : Int) = (n : Int) := by omega
  obtain ⟨d1, h1⟩ : ∃ d, decide ((n : Int) ≤ 60) = d := ⟨_, rfl⟩
  obtain ⟨d2, h2⟩ : ∃ d, decide ((nb : Int) ≤ 30) = d := ⟨_, rfl⟩
  have HE := Lib.hid (show t = (d1 && d2) by
    rw [ht, ← h1, ← h2, ← hn]
    congr 1 <;> (rw [decide_eq_decide]; omega))
  clear hn hw1 ht hsz hnb
  have hcs : d1 = false ∨ (d1 = true ∧ d2 = true) ∨ (d1 = true ∧ d2 = false) := by cases d1 <;> cases d2 <;> simp
  rcases hcs with rfl | ⟨rfl, rfl⟩ | ⟨rfl, rfl⟩
  all_goals
    go_enter Tryd.func8, Tryd.ntmps8
    go_upto_region 1 with fail
    rw [← HW1.out]
    go_wp2_with fail
    go_ret
    exact ⟨by rw [HE.out]; rfl, K1.out⟩
end Go.Proofs.YtmipnicdlldjnaaDoor

namespace Go.Proofs.YtmipnicdlldjnaaDoor
set_option linter.unusedVariables false
set_option linter.unusedSimpArgs false
open Go.RowKit

set_option maxHeartbeats 4000000 in
set_option maxRecDepth 100000 in
theorem left_row (x : Cb) {w : World} (hx : x.Ok w) (u : Nat) (hu : u ≤ 255) : Calls Tryd.prog 6 #[x.val, .int .u8 (u : Int)] w fun e w' => e = .returned (.bool true) ∧ Kp No w w' := by
  have HSH := Lib.hid shown10_any
  obtain ⟨t, ht⟩ : ∃ t, t = (decide (x.f.s.size ≤ 60) && decide (x.B.length ≤ 30)) := ⟨_, rfl⟩
  have SM := Lib.hid (small10_any x hx t ht)
  have H60 := Lib.hid (show t = true → x.f.s.size ≤ 60 ∧ x.B.length ≤ 30 by intro e; rw [ht] at e; simpa using e)
  obtain ⟨f, rb, pod, fr, tg, bv, B⟩ := x
  obtain ⟨hsz, hrb, hfr, htg, hB⟩ := hx
  simp only at hsz hrb hfr htg hB H60
  unfold Cb.val at SM ⊢
  simp only at SM ⊢
  obtain ⟨F, hF⟩ : ∃ F, F = f := ⟨_, rfl⟩
  have HF := Lib.hid hF
  rw [← hF] at H60
  have MK := Lib.hid (fun (h60 : F.s.size ≤ 60) wx (hk : Kp No w wx) => tpMake_any F (by omega) rb pod fr tg hrb hfr htg (hB.kpNo hk))
  have DK := Lib.hid (fun (h60 : F.s.size ≤ 60) wx => dock_any F (by omega) rb hrb wx)
  have ZS := Lib.hid (fun (h60 : F.s.size ≤ 60) l (hlb : l.length ≤ 1000000) (hc : ∀ x ∈ l, x.c ≤ 9223372036854775807) wx v (hl : Rd AcK wx v l) => tpZones_any F (by omega) hl hlb hc)
  have RT := Lib.hid (fun (h60 : F.s.size ≤ 60) (d : Int) (hd : d ≤ 9223372036854775807) l (hc : ∀ x ∈ l, x.c ≤ 9223372036854775807) (hr : rightT F rb d l = true) wx v (hv : Rd AcK wx v l) => tpRight_any F (by omega) rb d hrb hd hv hc true hr)
  obtain ⟨X, Y, s⟩ := f
  simp only at SM ⊢
  have HV := Lib.hid (show F.val = .agg #[.int .i64 X, .int .i64 Y, .string s] by rw [hF]; rfl)
  rw [HV.out] at MK DK ZS RT
  obtain ⟨w1, hw1⟩ : ∃ y : World, y = w.alloc (.cells #[.int .i64 X, .int .i64 Y, .string s, .int .i64 rb, .int .i64 pod, .int .i64 fr, .int .i64 tg, bv] 26) := ⟨_, rfl⟩
  have BX := Lib.hid (show w1.heap[w.heap.size]? = some (.cells #[.int .i64 X, .int .i64 Y, .string s, .int .i64 rb, .int .i64 pod, .int .i64 fr, .int .i64 tg, bv] 26 (0, 0)) by rw [hw1]; exact blk_new w _)
  have KB := Lib.hid (show Kp No w w1 by rw [hw1]; exact (Kp.refl _ _).alloc _)
  have HB := Lib.hid (fun wx (hk : Kp No w1 wx) => hB.kpNo (KB.out.no hk))
  have HW1 := Lib.hid hw1
  have LB := Lib.hid (fun wx (hk : Kp No w1 wx) => case10_cells BX.out hk)
  clear hsz hrb hfr htg hB ht hF hw1
  go_enter Tryd.func6, Tryd.ntmps6
  go_upto_region 1 with fail
  rw [← HW1.out]
  go_wp2_with fail
  refine (HSH.out _).mono ?_
  rintro e w2 ⟨rfl, k2⟩
  have K2 := Lib.hid k2
  clear k2
  obtain ⟨c0, c1, c2, c3, c4, c5, c6, c7⟩ := LB.out w2 K2.out
  go_wp2_with fail
  refine (SM.out _).mono ?_
  rintro e w3 ⟨rfl, k3⟩
  have K3 := Lib.hid (K2.out.no k3)
  clear k3 c0 c1 c2 c3 c4 c5 c6 c7
  cases t with
  | false =>
    go_wp2_with fail
    go_ret
    exact ⟨rfl, KB.out.no K3.out⟩
  | true =>
    obtain ⟨h60, h30⟩ := H60.out (by first | rfl | trivial)
    have HC := Lib.hid h60
    have HC30 := Lib.hid h30
    clear h60 h30
    obtain ⟨c0, c1, c2, c3, c4, c5, c6, c7⟩ := LB.out w3 K3.out
    go_wp2_with fail
    refine (MK.out HC.out _ (KB.out.no K3.out)).mono ?_
    rintro e w4 ⟨out, Ao, qo, er, hm, rfl, no⟩
    have NO := Lib.hid no
    have HM := Lib.hid hm
    have K4 := Lib.hid (K3.out.no no.kp)
    have HER := Lib.hid (show er = 0 ∨ (er = 1 ∧ out = []) ∨ (er = 2 ∧ out = []) by cases hm <;> simp)
    clear hm no c0 c1 c2 c3 c4 c5 c6 c7
    have hwu : IntKind.i64.wrap (u : Int) = (u : Int) := IntWalk.i64_in _ (by omega)
    by_cases he : er ≠ 0
    · have HEE := Lib.hid (show (er = 1 ∨ er = 2) by rcases HER.out with h | ⟨h, h2⟩ | ⟨h, h2⟩; exact absurd h he; exact .inl h; exact .inr h)
      obtain ⟨dv, hdv⟩ : ∃ z : Nat, z = (dockP F rb).getD 0 := ⟨_, rfl⟩
      obtain ⟨ib, hib⟩ : ∃ z : Bool, z = (dockP F rb).isSome := ⟨_, rfl⟩
      have D0 := Lib.hid (show ∀ wx, Calls Tryd.prog 10 #[.agg #[.int .i64 X, .int .i64 Y, .string s], .int .i64 rb] wx fun e w' => e = .returned (.tuple #[.int .i64 (dv : Int), .bool ib]) ∧ Kp No wx w' from fun wx => by have h := DK.out HC.out wx; rw [hdv, hib]; exact h)
      obtain ⟨c0, c1, c2, c3, c4, c5, c6, c7⟩ := LB.out w4 K4.out
      clear hdv hib
      rcases HEE.out with rfl | rfl
      all_goals
        go_wp2_with fail
        refine (D0.out _).mono ?_
        rintro e w5 ⟨rfl, k5⟩
        have K5 := Lib.hid (K4.out.no k5)
        clear k5
        go_wp2_with fail
        go_ret
        exact ⟨rfl, KB.out.no K5.out⟩
    have he : er = 0 := by omega
    subst he
    obtain ⟨a, b, d, Q1, Q2, Q3, hfa, hgb, hout, tw⟩ := made_trip HM.out rfl
    subst hfa hgb
    have D1 := Lib.hid (show ∀ wx, Calls Tryd.prog 10 #[.agg #[.int .i64 X, .int .i64 Y, .string s], .int .i64 rb] wx fun e w' => e = .returned (.tuple #[.int .i64 (d : Int), .bool true]) ∧ Kp No wx w' from fun wx => by have h := DK.out HC.out wx; rw [tw.dk] at h; exact h)
    have HMB := Lib.hid (show ∀ x ∈ out, x.c ≤ 9223372036854775807 by rw [hout]; exact tw.small (by have := HC.out; omega))
    have DM := Lib.hid (show (d : Int) ≤ 9223372036854775807 by have := tw.lens; have := HC.out; omega)
    obtain ⟨n, hn⟩ : ∃ z, z = out.length := ⟨_, rfl⟩
    have hn2 : n ≤ 1000 := by rw [hn, hout, tripT_len]; have := tw.lens; omega
    have LR := Lib.hid (show ∀ k, k ≤ out.length → rightT F rb (atT d (out.take k)) (out.drop k) = true from fun k hk => left_right tw.dk (by rw [hout]; exact tw.run) rfl (show (-1 : Int) < 0 by decide) (by rw [← hn]; omega) k hk)
    have HN := Lib.hid hn
    have NO2 := Lib.hid (show NewS AcK 36 w3 w4 (.slice Ao n qo) out by rw [hn]; exact NO.out)
    obtain ⟨m, hm⟩ : ∃ z, z = n + 1 := ⟨_, rfl⟩
    obtain ⟨k, hk⟩ : ∃ z, z = u % m := ⟨_, rfl⟩
    have hkn : k ≤ n := by have := Nat.mod_lt u (show 0 < m by omega); omega
    have hwm : IntKind.i64.wrap ((n : Int) + 1) = (m : Int) := by rw [IntWalk.i64_in _ (by omega)]; omega
    have hmz : ((m : Int) == 0) = false := by simp; omega
    have hm0 : ¬ m = 0 := by omega
    have hm0I : ¬ (m : Int) = 0 := by omega
    have htm : (u : Int).tmod (m : Int) = (k : Int) := by rw [Int.tmod_eq_emod_of_nonneg (by omega), hk]; rfl
    have hwk : IntKind.i64.wrap (k : Int) = (k : Int) := IntWalk.i64_in _ (by omega)
    rw [← hn]
    obtain ⟨c0, c1, c2, c3, c4, c5, c6, c7⟩ := LB.out w4 K4.out
    clear hout tw hn hm hk HM
    go_wp2_with fail
    refine (D1.out _).mono ?_
    rintro e w5 ⟨rfl, k5⟩
    have K5 := Lib.hid (K4.out.no k5)
    have OW := Lib.hid (show Rd AcK w5 (.slice Ao n qo) out from NO2.out.own.rd.kpNo k5)
    clear k5 c0 c1 c2 c3 c4 c5 c6 c7
    have hmm := @run_makeMap Tryd.prog
    go_upto_region 9 with fail
    clear hmm
    obtain ⟨w6, hw6⟩ : ∃ y : World, y = w5.alloc (.map #[] 0) := ⟨_, rfl⟩
    rw [← hw6]
    have ST0 := Lib.hid (show SetI w6 w5.heap.size [] by rw [hw6]; exact SetI.made w5)
    have K6 := Lib.hid (show Kp No w5 w6 by rw [hw6]; exact (Kp.refl _ _).alloc _)
    clear hw6
    obtain ⟨c0, c1, c2, c3, c4, c5, c6, c7⟩ := LB.out w6 (K5.out.no K6.out)
    go_wp2_with fail
    refine (ZS.out HC.out out (by rw [← HN.out]; omega) HMB.out _ _ (OW.out.kpNo K6.out)).mono ?_
    rintro e w7 ⟨vz, rfl, rz, k7⟩
    have K7 := Lib.hid (K6.out.no k7)
    have ST1 := Lib.hid (ST0.out.kp k7 (no_no _))
    obtain ⟨Zs, hZs⟩ : ∃ z, z = zonesR F out := ⟨_, rfl⟩
    have HZ := Lib.hid hZs
    rw [← hZs] at rz
    obtain ⟨Az, qz, rfl⟩ := rz.shape
    obtain ⟨nz, hnz⟩ : ∃ z, z = Zs.length := ⟨_, rfl⟩
    rw [← hnz] at rz ⊢
    have hnz2 : nz ≤ 1000 := by rw [hnz, hZs]; refine Nat.le_trans (zonesR_len _ _) ?_; rw [← HN.out]; exact hn2
    have RZ := Lib.hid rz; have HNZ := Lib.hid hnz
    clear rz hnz hZs k7 c0 c1 c2 c3 c4 c5 c6 c7
    go_wp2_with fail
    go_loopg [63] (nz + 1) (fun g_ iv wx => ∃ (i : Nat) (M : List Int), g_ = nz + 1 - i ∧ iv = .int .i64 (i : Int) ∧ i ≤ nz ∧ SetI wx w5.heap.size M ∧ (∀ z, z ∈ Zs.take i → z ∈ M) ∧ Kp No w5 wx ∧ Rd IK wx (.slice Az nz qz) Zs)
    case atStart => exact ⟨0, [], rfl, rfl, by omega, ST1.out, fun z hz => by simp at hz, K7.out, RZ.out⟩
    case round =>
      obtain ⟨i, M, hg, rfl, hi, st, hM, kp, rz⟩ := hrel
      have ST := Lib.hid st; have HMM := Lib.hid hM; have KP := Lib.hid kp; have RZ2 := Lib.hid rz
      clear st hM kp rz
      by_cases hlt : i < nz
      · have hltI : (i : Int) < (nz : Int) := by omega
        have hwi : IntKind.i64.wrap ((i : Int) + 1) = (i : Int) + 1 := IntWalk.i64_in _ (by omega)
        obtain ⟨z, hz⟩ : ∃ z, Zs[i]? = some z := ⟨_, List.getElem?_eq_getElem (by rw [← HNZ.out]; exact hlt)⟩
        rcases RZ2.out with ⟨_, he⟩ | ⟨g, o, cap', hv, _⟩
        · have := HNZ.out; rw [he, List.length_nil] at this; omega
        simp only [Value.slice.injEq] at hv
        obtain ⟨rfl, hzz, rfl⟩ := hv
        have hcz := RZ2.out.intAt hz
        obtain ⟨w8, hup, st8, k8⟩ := ST.out.add mapB z
        have K8 := Lib.hid k8
        have ST8 := Lib.hid st8
        have HZM := Lib.hid (show ∀ y, y ∈ Zs.take (i + 1) → y ∈ addS M z by
          intro y hy
          rw [List.take_add_one, hz] at hy
          rw [mem_addS]
          rcases List.mem_append.1 hy with h | h
          · exact .inl (HMM.out y h)
          · right; simpa using h)
        clear hz hzz hlt st8 k8
        go_wp2_with fail
        go_roundg (nz + 1 - (i + 1))
        case measure => omega
        case rel => exact ⟨i + 1, addS M z, rfl, by go_num, by omega, ST8.out, HZM.out, KP.out.newP K8.out (Nat.le_refl _), RZ2.out.kpMap ST.out K8.out⟩
      · obtain rfl : nz = i := by omega
        have hd0 : ¬ (nz : Int) < (nz : Int) := by omega
        have HA := Lib.hid (show ∀ y, y ∈ Zs → y ∈ M from fun y hy => HMM.out y (by rw [HNZ.out, List.take_length]; exact hy))
        obtain ⟨w8, hw8⟩ : ∃ y, y = wr := ⟨_, rfl⟩
        subst hw8
        clear hlt
        go_wp2_with fail
        go_loopg [8, 14, 77] (k + 1) (fun g_ av lv iv wx => ∃ (i : Nat) (at_ : Int), g_ = k + 1 - i ∧ iv = .int .i64 (i : Int) ∧ i ≤ k ∧ av = .int .i64 at_ ∧ at_ = atT d (out.take i) ∧ at_ ≤ 9223372036854775807 ∧ Kp No w8 wx)
        case atStart => exact ⟨0, d, rfl, rfl, by omega, rfl, rfl, DM.out, Kp.refl _ _⟩
        case round =>
          obtain ⟨i, at_, hg, rfl, hi, rfl, hat, ham, kp⟩ := hrel
          have HAT := Lib.hid hat; have HAM := Lib.hid ham; have KP2 := Lib.hid kp
          clear hat ham kp
          by_cases hlt : i < k
          · have hltI : (i : Int) < (k : Int) := by omega
            have hwi : IntKind.i64.wrap ((i : Int) + 1) = (i : Int) + 1 := IntWalk.i64_in _ (by omega)
            obtain ⟨x, hx⟩ : ∃ x, out[i]? = some x := ⟨_, List.getElem?_eq_getElem (by rw [← HN.out]; omega)⟩
            have RO := Lib.hid (OW.out.kpNo (KP.out.no KP2.out))
            rcases RO.out with ⟨_, he⟩ | ⟨g, o, cap', hv, _⟩
            · have := HN.out; rw [he, List.length_nil] at this; omega
            simp only [Value.slice.injEq] at hv
            obtain ⟨rfl, hzz, rfl⟩ := hv
            have hin : ((i : Int) < (n : Int)) := by omega
            have hi0 : ¬ ((i : Int) < 0) := by omega
            obtain ⟨x0, x1, x2, x3⟩ := RO.out.actAt hx
            have HS := Lib.hid (show atT d (out.take (i + 1)) = if x.k = 1 then x.c else at_ by rw [List.take_add_one, hx, HAT.out]; exact atT_snoc _ _ _)
            have HXM := Lib.hid (HMB.out x (List.mem_of_getElem? hx))
            by_cases hk1 : x.k = 1
            · have hk1b : ((x.k : Int) == 1) = true := by simp; omega
              have HS2 := Lib.hid (show x.c = atT d (out.take (i + 1)) by rw [HS.out, if_pos hk1])
              clear hx hzz hlt hk1
              go_wp2_with fail
              go_roundg (k + 1 - (i + 1))
              case measure => omega
              case rel => exact ⟨i + 1, x.c, rfl, by go_num, by omega, rfl, HS2.out, HXM.out, KP2.out⟩
            · have hk1b : ((x.k : Int) == 1) = false := by simp; omega
              have HS2 := Lib.hid (show at_ = atT d (out.take (i + 1)) by rw [HS.out, if_neg hk1])
              clear hx hzz hlt hk1
              go_wp2_with fail
              go_roundg (k + 1 - (i + 1))
              case measure => omega
              case rel => exact ⟨i + 1, at_, rfl, by go_num, by omega, rfl, HS2.out, HAM.out, KP2.out⟩
          · obtain rfl : k = i := by omega
            have hd0 : ¬ (k : Int) < (k : Int) := by omega
            obtain ⟨w9, hw9⟩ : ∃ y, y = wr := ⟨_, rfl⟩
            subst hw9
            have K9 := Lib.hid (KP.out.no KP2.out)
            have ST9 := Lib.hid (ST.out.kp KP2.out (no_no _))
            have O9 := Lib.hid (OW.out.kpNo K9.out)
            obtain ⟨sd, Ad, qd, hsd, hdl, hrd, hRd, _⟩ := O9.out.from2 elAc k (by rw [← HN.out]; exact hkn) (k : Int) rfl
            obtain ⟨sp, Ap, qp, hsp, hpl, hrp, hRp, _⟩ := O9.out.upto2 elAc k (by rw [← HN.out]; exact hkn) (k : Int) rfl
            obtain ⟨nd, hnd⟩ : ∃ z, z = sd.length := ⟨_, rfl⟩
            obtain ⟨np, hnp⟩ : ∃ z, z = sp.length := ⟨_, rfl⟩
            rw [← hnd] at hrd hRd hdl; rw [← hnp] at hrp hRp hpl
            have hndb : nd ≤ 1000 := by rw [hdl, ← HN.out]; omega
            have hnpb : np ≤ 1000 := by omega
            have HND := Lib.hid hnd; have HNP := Lib.hid hnp
            have HMD := Lib.hid (show ∀ x ∈ sd, x.c ≤ 9223372036854775807 from fun x hx => HMB.out x (by rw [hsd.out] at hx; exact List.mem_of_mem_drop hx))
            have RR := Lib.hid (RT.out HC.out at_ HAM.out sd HMD.out (by rw [hsd.out, HAT.out]; exact LR.out k (by rw [← HN.out]; exact hkn)))
            have ZD := Lib.hid (ZS.out HC.out sd (by rw [← hnd]; omega) HMD.out)
            obtain ⟨c1_, hc1⟩ : ∃ z, z = costT sp := ⟨_, rfl⟩
            obtain ⟨c2_, hc2⟩ : ∃ z, z = costT sd := ⟨_, rfl⟩
            obtain ⟨c3_, hc3⟩ : ∃ z, z = costT out := ⟨_, rfl⟩
            have hcs : c3_ = c1_ + c2_ := by rw [hc1, hc2, hc3, hsp.out, hsd.out]; exact (cost_parts out k).symm
            have hcb : c1_ ≤ 1000 ∧ c2_ ≤ 1000 := by
              have h1 := costT_len sp; have h2 := costT_len sd
              omega
            have hcw : IntKind.i64.wrap ((c1_ : Int) + (c2_ : Int)) = (c3_ : Int) := by rw [IntWalk.i64_in _ (by omega)]; omega
            have CP := Lib.hid (show ∀ wx v, Rd AcK wx v sp → Calls Tryd.prog 16 #[v] wx fun e w' => e = .returned (.int .i64 (c1_ : Int)) ∧ Kp No wx w' from fun wx v hv => by rw [hc1]; exact tpCost_any hv (by rw [← hnp]; omega))
            have CD := Lib.hid (show ∀ wx v, Rd AcK wx v sd → Calls Tryd.prog 16 #[v] wx fun e w' => e = .returned (.int .i64 (c2_ : Int)) ∧ Kp No wx w' from fun wx v hv => by rw [hc2]; exact tpCost_any hv (by rw [← hnd]; omega))
            have CO := Lib.hid (show ∀ wx v, Rd AcK wx v out → Calls Tryd.prog 16 #[v] wx fun e w' => e = .returned (.int .i64 (c3_ : Int)) ∧ Kp No wx w' from fun wx v hv => by rw [hc3]; exact tpCost_any hv (by rw [← HN.out]; omega))
            have HZD := Lib.hid (show ∀ y, y ∈ zonesR F sd → y ∈ M from fun y hy => HA.out y (by rw [HZ.out]; rw [hsd.out] at hy; exact zones_drop hy))
            have hzdl : (zonesR F sd).length ≤ 1000 := by have := zonesR_len F sd; omega
            have HZL := Lib.hid hzdl
            have HRD := Lib.hid hRd.out; have HRP := Lib.hid hRp.out
            obtain ⟨q0, q1, q2, q3, q4, q5, q6, q7⟩ := LB.out w9.drew (K5.out.no K9.out.drew)
            clear hlt hsd hdl hsp hpl hRd hRp hnd hnp hc1 hc2 hc3 hcs hzdl
            go_upto_region 21 with fail
            go_region_held3 (fun w' => w'.cell? ⟨w.heap.size, 0, none⟩ = some (.int .i64 X) ∧ w'.cell? ⟨w.heap.size, 1, none⟩ = some (.int .i64 Y) ∧ w'.cell? ⟨w.heap.size, 2, none⟩ = some (.string s))
              (first | exact ⟨by assumption, by assumption, by assumption⟩ | exact ⟨q0, q1, q2⟩)
              (first
                | (go_at_call 17; refine (ZD.out _ _ (HRD.out.drewN 1)).mono ?_; rintro e w10 ⟨v10, rfl, r10, k10⟩; obtain ⟨A10, q10, rfl⟩ := r10.shape; have R10 := Lib.hid r10; have K10 := Lib.hid ((Kp.refl No w9).drew.no k10); obtain ⟨t0, t1, t2, t3, t4, t5, t6, t7⟩ := LB.out w10 (K5.out.no (K9.out.no K10.out)); clear r10 k10))
            have KA := Lib.hid (K9.out.no K10.out)
            have ST10 := Lib.hid (ST9.out.kp K10.out (no_no _))
            have RD := Lib.hid (fun wx (hk : Kp No w9 wx) => HRD.out.kpNo hk)
            have RP := Lib.hid (fun wx (hk : Kp No w9 wx) => HRP.out.kpNo hk)
            have RO := Lib.hid (fun wx (hk : Kp No w9 wx) => O9.out.kpNo hk)
            obtain ⟨Zd, hZd⟩ : ∃ z, z = zonesR F sd := ⟨_, rfl⟩
            rw [← hZd] at R10 HZD HZL ⊢
            obtain ⟨nv, hnv⟩ : ∃ z, z = Zd.length := ⟨_, rfl⟩
            rw [← hnv] at R10 HZL ⊢
            have HNV := Lib.hid hnv
            have hnv2 := HZL.out
            clear hZd hnv q0 q1 q2 q3 q4 q5 q6 q7 t0 t1 t2 t3 t4 t5 t6 t7
            go_wp2_with fail
            go_loopg [99] (nv + 1) (fun g_ iv wx => ∃ (i : Nat), g_ = nv + 1 - i ∧ iv = .int .i64 (i : Int) ∧ i ≤ nv ∧ Kp No w10 wx)
            case atStart => exact ⟨0, rfl, rfl, by omega, (Kp.refl _ _).drewN 0⟩
            case round =>
              obtain ⟨i, hg, rfl, hi, kp⟩ := hrel
              have KP3 := Lib.hid kp
              clear kp
              by_cases hlt : i < nv
              · have hltI : (i : Int) < (nv : Int) := by omega
                have hwi : IntKind.i64.wrap ((i : Int) + 1) = (i : Int) + 1 := IntWalk.i64_in _ (by omega)
                obtain ⟨z, hz⟩ : ∃ z, Zd[i]? = some z := ⟨_, List.getElem?_eq_getElem (by rw [← HNV.out]; exact hlt)⟩
                have RZ3 := Lib.hid (R10.out.kpNo KP3.out)
                rcases RZ3.out with ⟨_, he⟩ | ⟨g, o, cap', hv, _⟩
                · have := HNV.out; rw [he, List.length_nil] at this; omega
                simp only [Value.slice.injEq] at hv
                obtain ⟨rfl, hzz, rfl⟩ := hv
                have hcz := RZ3.out.intAt hz
                have hlook : (Instr.lookup 45 (.map (some w5.heap.size)) (.int .i64 z) false).run Tryd.prog wr = .ok (.bool true) wr := by
                  have h := SetI.look mapB (ST10.out.kp KP3.out (no_no _)) z
                  rwa [decide_eq_true (HZD.out z (List.mem_of_getElem? hz))] at h
                clear hz hzz hlt
                go_wp2_with fail
                go_roundg (nv + 1 - (i + 1))
                case measure => omega
                case rel => exact ⟨i + 1, rfl, by go_num, by omega, KP3.out⟩
              · obtain rfl : nv = i := by omega
                have hd0 : ¬ (nv : Int) < (nv : Int) := by omega
                have KF := Lib.hid (K10.out.no KP3.out)
                have LB2 := Lib.hid (fun wx (hk : Kp No w9 wx) => LB.out wx (K5.out.no (K9.out.no hk)))
                obtain ⟨q0, q1, q2, q3, _, _, _, _⟩ := LB2.out wr.drew KF.out.drew
                clear hlt
                go_wp2_with fail
                go_region_held3 (fun w' => w'.cell? ⟨w.heap.size, 0, none⟩ = some (.int .i64 X) ∧ w'.cell? ⟨w.heap.size, 1, none⟩ = some (.int .i64 Y) ∧ w'.cell? ⟨w.heap.size, 2, none⟩ = some (.string s) ∧ w'.cell? ⟨w.heap.size, 3, none⟩ = some (.int .i64 rb))
                  (first | exact ⟨by assumption, by assumption, by assumption, by assumption⟩ | exact ⟨q0, q1, q2, q3⟩)
                  (first
                    | (go_at_call 14; refine (RR.out _ _ (RD.out _ KF.out.drew)).mono ?_; rintro e w11 ⟨rfl, k11⟩; have K11 := Lib.hid (KF.out.drew.no k11); obtain ⟨t0, t1, t2, t3, _, _, _, _⟩ := LB2.out w11 K11.out; clear k11)
                    | (go_at_call 16; refine (CO.out _ _ (RO.out _ K13.out)).mono ?_; rintro e w14 ⟨rfl, k14⟩; have K14 := Lib.hid (K13.out.no k14); obtain ⟨z0, z1, z2, z3, _, _, _, _⟩ := LB2.out w14 K14.out; clear k14)
                    | (go_at_call 16; refine (CD.out _ _ (RD.out _ K12.out)).mono ?_; rintro e w13 ⟨rfl, k13⟩; have K13 := Lib.hid (K12.out.no k13); obtain ⟨y0, y1, y2, y3, _, _, _, _⟩ := LB2.out w13 K13.out; clear k13)
                    | (go_at_call 16; refine (CP.out _ _ (RP.out _ K11.out)).mono ?_; rintro e w12 ⟨rfl, k12⟩; have K12 := Lib.hid (K11.out.no k12); obtain ⟨x0, x1, x2, x3, _, _, _, _⟩ := LB2.out w12 K12.out; clear k12))
                go_wp2_with fail
                go_ret
                exact ⟨by simp, KB.out.no (K5.out.no (K9.out.no (K14.out.no ((Kp.refl No _).drewN 0))))⟩
theorem wf_u8 {n : Int} (h : (Lit.int .u8 n).wf = true) : ∃ u : Nat, n = (u : Int) ∧ u ≤ 255 := by
  unfold Lit.wf at h
  simp only [Bool.and_eq_true, decide_eq_true_eq] at h
  have h1 : IntKind.u8.max = 255 := by decide
  have h2 : IntKind.u8.min = 0 := by decide
  exact ⟨n.toNat, by omega, by omega⟩
theorem left_rowI (x : Cb) {w : World} (hx : x.Ok w) {n : Int} (hn : (Lit.int .u8 n).wf = true) : Calls Tryd.prog 6 #[x.val, .int .u8 n] w fun e w' => e = .returned (.bool true) ∧ Kp No w w' := by
  obtain ⟨u, rfl, hu⟩ := wf_u8 hn
  exact left_row x hx u hu
end Go.Proofs.YtmipnicdlldjnaaDoor

namespace Go.Proofs.YtmipnicdlldjnaaDoor
set_option linter.unusedVariables false
set_option linter.unusedSimpArgs false
open Go.RowKit

set_option maxHeartbeats 4000000 in
set_option maxRecDepth 100000 in
theorem long_row (s : ByteArray) (hs : s.size ≤ 9223372036854775807) (u : Nat) (hu : u ≤ 255) (w : World) : Calls Tryd.prog 4 #[.string s, .int .u8 (u : Int)] w fun e w' => e = .returned (.bool true) ∧ Kp No w w' := by
  have HSH := Lib.hid shown10_any
  obtain ⟨n, hn⟩ : ∃ n, n = s.size := ⟨_, rfl⟩
  have hnI : ((s.size : Nat) : Int) = (n : Int) := by omega
  obtain ⟨hi, hhi⟩ : ∃ h, h = min n 70 := ⟨_, rfl⟩
  have hmi : min (n : Int) 70 = (hi : Int) := by omega
  have hsl := fun w => run_slice_str s hi (by omega) (hi : Int) rfl w
  obtain ⟨s6, hs6⟩ : ∃ x, x = s.extract 0 hi := ⟨_, rfl⟩
  have hs6s : s6.size ≤ 70 := by rw [hs6, ByteArray.size_extract]; omega
  rw [← hs6] at hsl
  obtain ⟨⟨f1, y1, e1⟩, hpp⟩ : ∃ r, parseP s6 = r := ⟨_, rfl⟩
  have PA := Lib.hid (parse_at s6 (by omega) _ hpp (.tuple #[.agg #[.int .i64 f1.W, .int .i64 f1.H, .string f1.s], .int .i64 (y1 : Int), .int .i64 (e1 : Int)]) rfl)
  have HF1 := Lib.hid (show f1.s.size ≤ 70 ∧ (e1 = 0 → rightB f1 = true) by
    have h1 := parseP_size s6
    have h2 := @parseP_ok s6
    rw [hpp] at h1 h2
    exact ⟨by simp only at h1; omega, h2⟩)
  clear hn hhi hs6 hs6s hpp hs
  by_cases he : e1 = 0
  case neg =>
    have hne : ((e1 : Int) != 0) = true := by simp; omega
    obtain ⟨X, Y, q⟩ := f1
    simp only at PA
    clear he HF1
    go_enter Tryd.func4, Tryd.ntmps4
    go_wp2_with fail
    refine (HSH.out _).mono ?_
    rintro e w1 ⟨rfl, k1⟩
    have K1 := Lib.hid k1
    clear k1
    go_wp2_with fail
    refine (PA.out _).mono ?_
    rintro e w2 ⟨rfl, k2⟩
    have K2 := Lib.hid (K1.out.no k2)
    clear k2
    go_wp2_with fail
    go_ret
    exact ⟨rfl, K2.out.alloc _⟩
  case pos =>
    subst he
    obtain ⟨h70, hr⟩ := HF1.out
    obtain ⟨d, hdk, hds, ⟨t0, ht0, ht0l⟩, hns, hbw⟩ := bnc_at (hr rfl)
    obtain ⟨F, hF⟩ : ∃ F, F = f1 := ⟨_, rfl⟩
    have HV := Lib.hid (show F.val = .agg #[.int .i64 f1.W, .int .i64 f1.H, .string f1.s] by rw [hF]; rfl)
    rw [← hF] at hdk hds ht0 ht0l hns hbw h70
    have D1 := Lib.hid (show ∀ wx, Calls Tryd.prog 10 #[.agg #[.int .i64 f1.W, .int .i64 f1.H, .string f1.s], .int .i64 0] wx fun e w' => e = .returned (.tuple #[.int .i64 (d : Int), .bool true]) ∧ Kp No wx w' from fun wx => by have h := dock_any F (by omega) 0 (by omega) wx; rw [hdk, HV.out] at h; exact h)
    have N1 := Lib.hid (fun wx => near_any F (by omega) (d : Int) (by omega) wx)
    have ZN := Lib.hid (fun (c : Int) (hc : c ≤ 9223372036854775807) wx => zone_any F (by omega) c hc wx)
    have RT := Lib.hid (fun (t : Nat) (ht : t < F.s.size) (hw : BncW F d t) (m : Nat) wx v (hv : Rd AcK wx v (bnc t d m)) => tpRight_any F (by omega) 0 (d : Int) (by omega) (by omega) hv (fun x hx => by rcases bnc_c _ _ _ x hx with e | e <;> omega) _ (hw.right m))
    rw [HV.out] at N1 ZN RT
    have hdb : (d : Int) ≤ 9223372036854775807 := by omega
    obtain ⟨L, hL⟩ : ∃ L, L = nearP F (d : Int) := ⟨_, rfl⟩
    rw [← hL] at N1 ht0 hns hbw
    have HNS := Lib.hid hns; have HBW := Lib.hid hbw; have HT := Lib.hid (⟨t0, ht0, ht0l⟩ : ∃ t ∈ L, laneB F (t : Int) = true)
    have H70 := Lib.hid h70
    obtain ⟨X, Y, q⟩ := f1
    simp only at PA D1 N1 ZN RT
    have hwu : IntKind.i64.wrap (u : Int) = (u : Int) := IntWalk.i64_in _ (by omega)
    obtain ⟨m, hm⟩ : ∃ z, z = 462 + u % 100 := ⟨_, rfl⟩
    obtain ⟨r, hrr⟩ : ∃ z, z = u % 100 := ⟨_, rfl⟩
    have htm : (u : Int).tmod 100 = (r : Int) := by rw [Int.tmod_eq_emod_of_nonneg (by omega), hrr]; rfl
    have hw0 : IntKind.u8.wrap (r : Int) = (r : Int) := by unfold IntKind.wrap; simp [IntKind.signed, IntKind.bits]; omega
    have hw1 : IntKind.i64.wrap (r : Int) = (r : Int) := IntWalk.i64_in _ (by omega)
    have hw2 : IntKind.i64.wrap (512 + (r : Int)) = 512 + (r : Int) := IntWalk.i64_in _ (by omega)
    have hw3 : IntKind.i64.wrap (512 + (r : Int) - 50) = (m : Int) := by rw [IntWalk.i64_in _ (by omega)]; omega
    have hw4 : IntKind.i64.wrap (2 * (m : Int)) = 2 * (m : Int) := IntWalk.i64_in _ (by omega)
    have hmb : m ≤ 561 := by omega
    clear hm hrr hns hbw ht0 ht0l hL hF hdk hds HF1 h70 hr
    go_enter Tryd.func4, Tryd.ntmps4
    go_wp2_with fail
    refine (HSH.out _).mono ?_
    rintro e w1 ⟨rfl, k1⟩
    have K1 := Lib.hid k1
    clear k1
    go_wp2_with fail
    refine (PA.out _).mono ?_
    rintro e w2 ⟨rfl, k2⟩
    have K2 := Lib.hid (K1.out.no k2)
    clear k2
    go_upto_region 5 with fail
    obtain ⟨w3, hw3⟩ : ∃ y : World, y = w2.alloc (.cells #[.int .i64 X, .int .i64 Y, .string q] 23) := ⟨_, rfl⟩
    rw [← hw3]
    have B3 := Lib.hid (show w3.heap[w2.heap.size]? = some (.cells #[.int .i64 X, .int .i64 Y, .string q] 23 (0, 0)) by rw [hw3]; exact blk_new w2 _)
    have K3 := Lib.hid (show Kp No w w3 by rw [hw3]; exact K2.out.alloc _)
    have LB := Lib.hid (fun wx (hk : Kp No w3 wx) => show wx.cell? ⟨w2.heap.size, 0, none⟩ = some (.int .i64 X) ∧ wx.cell? ⟨w2.heap.size, 1, none⟩ = some (.int .i64 Y) ∧ wx.cell? ⟨w2.heap.size, 2, none⟩ = some (.string q) from ⟨blk_cell (hk.blk B3.out (no_no _)) 0, blk_cell (hk.blk B3.out (no_no _)) 1, blk_cell (hk.blk B3.out (no_no _)) 2⟩)
    clear hw3
    obtain ⟨b0, b1, b2⟩ := LB.out w3 (Kp.refl _ _)
    go_wp2_with fail
    refine (D1.out _).mono ?_
    rintro e w4 ⟨rfl, k4⟩
    have K4 := Lib.hid k4
    clear k4 b0 b1 b2
    obtain ⟨b0, b1, b2⟩ := LB.out w4 K4.out
    go_wp2_with fail
    refine (N1.out _).mono ?_
    rintro e w5 ⟨vN, rfl, nN⟩
    obtain ⟨AN, qN, rfl⟩ := nN.own.rd.shape
    have hll := nN.own.rd.lenI
    unfold maxLen at hll
    rw [ints_len] at hll ⊢
    have RN0 := Lib.hid (show Rd IK w5 (.slice AN L.length qN) (ints L) by have := nN.own.rd; rwa [ints_len] at this)
    obtain ⟨nl, hnl⟩ : ∃ z, z = L.length := ⟨_, rfl⟩
    rw [← hnl] at RN0 hll ⊢
    have HNL := Lib.hid hnl
    have K5 := Lib.hid (K4.out.no nN.kp)
    clear nN hnl b0 b1 b2
    go_wp2_with fail
    go_loopg [12, 43] (nl + 1) (fun g_ tv iv wx => ∃ (i : Nat) (t : Int), g_ = nl + 1 - i ∧ iv = .int .i64 (i : Int) ∧ i ≤ nl ∧ tv = .int .i64 t ∧ ((t = -1 ∧ ∀ c ∈ L.take i, laneB F (c : Int) = false) ∨ ∃ c ∈ L, t = (c : Int) ∧ laneB F (c : Int) = true) ∧ Kp No w5 wx)
    case atStart => exact ⟨0, -1, rfl, rfl, by omega, rfl, .inl ⟨rfl, by simp⟩, Kp.refl _ _⟩
    case round =>
      obtain ⟨i, t, hg, rfl, hi2, rfl, ht, kp⟩ := hrel
      have HTT := Lib.hid ht; have KP := Lib.hid kp
      clear ht kp
      by_cases hlt : i < nl
      · have hltI : (i : Int) < (nl : Int) := by omega
        have hwi : IntKind.i64.wrap ((i : Int) + 1) = (i : Int) + 1 := IntWalk.i64_in _ (by omega)
        obtain ⟨c, hc⟩ : ∃ c, L[i]? = some c := ⟨_, List.getElem?_eq_getElem (by rw [← HNL.out]; exact hlt)⟩
        have hci : (ints L)[i]? = some (c : Int) := by unfold ints; rw [List.getElem?_map, hc]; rfl
        rcases (RN0.out.kpNo KP.out) with ⟨_, he⟩ | ⟨g, o, cap', hv, _⟩
        · have h := HNL.out; have := congrArg List.length he; rw [ints_len, List.length_nil] at this; omega
        simp only [Value.slice.injEq] at hv
        obtain ⟨rfl, hzz, rfl⟩ := hv
        have hcc := (RN0.out.kpNo KP.out).intAt hci
        have HCM := Lib.hid (List.mem_of_getElem? hc)
        have hcb : (c : Int) ≤ 9223372036854775807 := by have := HNS.out c HCM.out; have := H70.out; omega
        obtain ⟨Z, hZ⟩ : ∃ Z, zoneP F (c : Int) = Z := ⟨_, rfl⟩
        obtain ⟨zn, hzn⟩ : ∃ z : Nat, z = Z.getD 0 := ⟨_, rfl⟩
        obtain ⟨ln, hln⟩ : ∃ z : Bool, laneB F (c : Int) = z := ⟨_, rfl⟩
        have ZX := Lib.hid (show ∀ wx, Calls Tryd.prog 12 #[.agg #[.int .i64 X, .int .i64 Y, .string q], .int .i64 (c : Int)] wx fun e w' => e = .returned (.tuple #[.int .i64 (zn : Int), .bool ln]) ∧ Kp No wx w' from fun wx => by
          have h1 := ZN.out (c : Int) hcb wx
          have e : ZVal (zoneP F (c : Int)) = .tuple #[.int .i64 (zn : Int), .bool ln] := by unfold ZVal; rw [← hln]; unfold laneB; rw [hZ, ← hzn]
          rwa [e] at h1)
        have HTK := Lib.hid (show L.take (i + 1) = L.take i ++ [c] by rw [List.take_add_one, hc]; rfl)
        have HLN := Lib.hid hln
        obtain ⟨b0, b1, b2⟩ := LB.out wr (K5.out.no KP.out)
        clear hc hci hzz hlt hZ hzn hln
        go_wp2_with fail
        refine (ZX.out _).mono ?_
        rintro e w6 ⟨rfl, k6⟩
        have K6 := Lib.hid (KP.out.no k6)
        clear k6 b0 b1 b2
        obtain ⟨ng, hng⟩ : ∃ z, decide (t < 0) = z := ⟨_, rfl⟩
        have HNG := Lib.hid hng
        cases ln
        · clear hng
          go_wp2_with fail
          go_roundg (nl + 1 - (i + 1))
          case measure => omega
          case rel => exact ⟨i + 1, t, rfl, by go_num, by omega, rfl, HTT.out.imp (fun ⟨h1, h2⟩ => ⟨h1, fun y hy => by rw [HTK.out] at hy; rcases List.mem_append.1 hy with h | h; exact h2 y h; simp at h; rw [h]; exact HLN.out⟩) id, K6.out⟩
        · cases ng
          · have hge : ¬ t < 0 := by simpa using hng
            clear hng
            go_wp2_with fail
            go_roundg (nl + 1 - (i + 1))
            case measure => omega
            case rel => exact ⟨i + 1, t, rfl, by go_num, by omega, rfl, .inr (HTT.out.resolve_left (fun h => by have := h.1; omega)), K6.out⟩
          · have hge : t < 0 := by simpa using hng
            clear hng
            go_wp2_with fail
            go_roundg (nl + 1 - (i + 1))
            case measure => omega
            case rel => exact ⟨i + 1, (c : Int), rfl, by go_num, by omega, rfl, .inr ⟨c, HCM.out, rfl, HLN.out⟩, K6.out⟩
      · obtain rfl : nl = i := by omega
        have hd0 : ¬ (nl : Int) < (nl : Int) := by omega
        obtain ⟨t', hm, rfl, hl⟩ : ∃ c ∈ L, t = (c : Int) ∧ laneB F (c : Int) = true := HTT.out.resolve_left (fun h => by
          obtain ⟨c, h1, h2⟩ := HT.out
          have := h.2 c (by rw [HNL.out, List.take_length]; exact h1)
          rw [h2] at this; cases this)
        have BW := Lib.hid (HBW.out t' hm hl)
        have R1 := Lib.hid (RT.out t' (HNS.out t' hm) BW.out m)
        have hng : ¬ (t' : Int) < 0 := by omega
        obtain ⟨w6, hw6⟩ : ∃ y, y = wr := ⟨_, rfl⟩
        subst hw6
        clear hlt hm hl
        go_wp2_with fail
        go_loopg [17, 72] (m + 1) (fun g_ lv iv wx => ∃ (i : Nat) (A : Option Addr) (qq k : Nat), g_ = m + 1 - i ∧ iv = .int .i64 (i : Int) ∧ i ≤ m ∧ lv = .slice A k qq ∧ k = (bnc t' d i).length ∧ NewS AcK 36 w6 wx (.slice A k qq) (bnc t' d i))
        case atStart => exact ⟨0, none, 0, 0, rfl, rfl, by omega, rfl, rfl, NewS.nil _ _ _⟩
        case round =>
          obtain ⟨i, A, qq, k, hg, rfl, hi3, rfl, hk, ns⟩ := hrel
          have HK := Lib.hid hk; have NS := Lib.hid ns
          have hkb : k ≤ 1000000 := by rw [hk, bnc_len]; omega
          clear hk ns
          by_cases hlt : i < m
          · have hltI : (i : Int) < (m : Int) := by omega
            have hwi : IntKind.i64.wrap ((i : Int) + 1) = (i : Int) + 1 := IntWalk.i64_in _ (by omega)
            clear hlt
            go_wp2_with (at_builtin; refine wpl_snocA2 rfl (.tmp 74) (.tmp 79) rfl rfl rfl rfl NS.out HK.out (by omega) ?_; intro A4 q4 w8 n4; have N4 := Lib.hid n4; clear n4)
            go_roundg (m + 1 - (i + 1))
            case measure => omega
            case rel => exact ⟨i + 1, A4, q4, k + 2, rfl, by go_num, by omega, rfl, by rw [HK.out, bnc_len, bnc_len]; omega, N4.out⟩
          · obtain rfl : m = i := by omega
            have hd1 : ¬ (m : Int) < (m : Int) := by omega
            obtain ⟨le, hle⟩ : ∃ z, decide (2 * (m : Int) ≤ 1024) = z := ⟨_, rfl⟩
            have R2 := Lib.hid (show ∀ wx v, Rd AcK wx v (bnc t' d m) → Calls Tryd.prog 14 #[.agg #[.int .i64 X, .int .i64 Y, .string q], .int .i64 0, .int .i64 (d : Int), v] wx fun e w' => e = .returned (.bool le) ∧ Kp No wx w' from fun wx v hv => by
              have h := R1.out wx v hv
              have e : decide (2 * m ≤ 1024) = le := by rw [← hle, decide_eq_decide]; omega
              rwa [e] at h)
            have KW := Lib.hid (K5.out.no (KP.out.no NS.out.kp))
            obtain ⟨b0, b1, b2⟩ := LB.out wr KW.out
            clear hlt
            go_wp2_with fail
            refine (R2.out _ _ NS.out.own.rd).mono ?_
            rintro e w9 ⟨rfl, k9⟩
            have K9 := Lib.hid (KW.out.no k9)
            clear k9 b0 b1 b2
            cases le
            all_goals
              go_wp2_with fail
              go_ret
              exact ⟨rfl, K3.out.no K9.out⟩
theorem long_rowI (s : ByteArray) (hs : s.size ≤ 9223372036854775807) {w : World} {n : Int} (hn : (Lit.int .u8 n).wf = true) : Calls Tryd.prog 4 #[.string s, .int .u8 n] w fun e w' => e = .returned (.bool true) ∧ Kp No w w' := by
  obtain ⟨u, rfl, hu⟩ := wf_u8 hn
  exact long_row s hs u hu w
end Go.Proofs.YtmipnicdlldjnaaDoor
