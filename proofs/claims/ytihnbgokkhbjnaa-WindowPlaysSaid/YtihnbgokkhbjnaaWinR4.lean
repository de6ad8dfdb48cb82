/- The document's table (carfaxref06): Take. -/
import Derived.Test.YtihnbgokkhbjnaaWinR3
namespace Go.Proofs.Ytihnbgokkhbjnaa
set_option linter.unusedVariables false
set_option linter.unusedSimpArgs false
open Go.RowKit

def rok (a b : Int) : Bool := decide (0 ≤ a) && decide (a < b) && decide (b ≤ 1048576)
def rover (L : List (Int × Int)) (a b : Int) : Bool := L.any fun x => decide (x.1 < b) && decide (a < x.2)
def rtakeE (R : List Rw) (c a b : Int) : Int := if rok a b then (if rover (flt R c) a b then 3 else 0) else 1
def posR (R : List Rw) (c a : Int) : Nat := (R.takeWhile fun r => !(decide (r.1 = c) && decide (a ≤ r.2.1))).length
def insR (R : List Rw) (c a b : Int) : List Rw := R.take (posR R c a) ++ [(c, (a, b))] ++ R.drop (posR R c a)
def rtakeR (R : List Rw) (c a b : Int) : List Rw := if rtakeE R c a b = 0 then insR R c a b else R

theorem rover_snoc (L : List (Int × Int)) (a b : Int) (k : Nat) (x : Int × Int) (h : L[k]? = some x) : rover (L.take (k + 1)) a b = (rover (L.take k) a b || (decide (x.1 < b) && decide (a < x.2))) := by
  rw [List.take_add_one, h]
  simp [rover]
theorem posR_eq (R : List Rw) (c a : Int) : ∀ k, k ≤ R.length → (∀ (j : Nat) (y : Rw), j < k → R[j]? = some y → ¬ (y.1 = c ∧ a ≤ y.2.1)) → (∀ y, R[k]? = some y → y.1 = c ∧ a ≤ y.2.1) → posR R c a = k := by
  induction R with
  | nil => intro k hk _ _; simp at hk; simp [posR, hk]
  | cons r R ih =>
    intro k hk h1 h2
    cases k with
    | zero => have := h2 r rfl; simp [posR, this]
    | succ k =>
      have h0 := h1 0 r (by omega) rfl
      have : (!(decide (r.1 = c) && decide (a ≤ r.2.1))) = true := by
        simp only [Bool.not_eq_true', Bool.and_eq_false_iff, decide_eq_false_iff_not]
        by_cases e : r.1 = c
        · right; intro e2; exact h0 ⟨e, e2⟩
        · left; exact e
      unfold posR
      rw [List.takeWhile_cons, if_pos this, List.length_cons]
      congr 1
      exact ih k (by simpa using hk) (fun j y hj hy => h1 (j + 1) y (by omega) (by simpa using hy)) (fun y hy => h2 y (by simpa using hy))

set_option maxHeartbeats 2000000 in
set_option maxRecDepth 100000 in
theorem rtake_any {w : World} {br : Nat} {R : List Rw} {V : Value} (h : RepR w br R V) (hlen : R.length ≤ 1000) (c a b : Int) (r : Int) (hr : r = rtakeE R c a b) :
    Calls Try.prog 29 #[.pointer (some ⟨br, 0, none⟩), .int .i64 c, .agg #[.int .i64 a, .int .i64 b]] w fun e w' => e = .returned (.int .i64 r) ∧ RefTo br (rtakeR R c a b) V w w' := by
  have HRR := Lib.hid hr
  obtain ⟨w0, hw0⟩ : ∃ w0 : World, w0 = w.alloc (.cells #[.int .i64 a, .int .i64 b] 23) := ⟨_, rfl⟩
  have hp0 : w0.heap[w.heap.size]? = some (.cells #[.int .i64 a, .int .i64 b] 23 (0, 0)) := hw0 ▸ blk_new w _
  have hk0 : Kp No w w0 := hw0 ▸ (Kp.refl _ _).alloc _
  obtain ⟨A, cap, rfl⟩ := h.rd.shape
  have H := Lib.hid h
  have HP := Lib.hid hp0; have K0 := Lib.hid hk0
  clear h hr hp0 hk0
  obtain ⟨q, hq⟩ : ∃ q, q = rok a b := ⟨_, rfl⟩
  have HQ := Lib.hid hq
  clear hq
  go_enter Try.func29, Try.ntmps29
  go_wp2_with fail
  rw [← hw0]
  clear hw0
  refine (rright_any _ a b q HQ.out).mono ?_
  rintro e w1 ⟨rfl, k1⟩
  have K1 := Lib.hid (K0.out.no k1)
  obtain ⟨hp1, hp2⟩ := box2 HP.out k1
  have KB := Lib.hid k1
  clear k1
  cases q with
  | false =>
    obtain rfl : r = 1 := by rw [HRR.out]; simp [rtakeE, ← HQ.out]
    have hrr : Hid (rtakeR R c a b = R) := by unfold Hid rtakeR; rw [← HRR.out]; rfl
    go_wp2
    go_ret
    exact ⟨rfl, by rw [hrr.out]; exact RefTo.same H.out K1.out⟩
  | true =>
    have hE : r = if rover (flt R c) a b then 3 else 0 := by rw [HRR.out]; simp [rtakeE, ← HQ.out]
    have HR1 := Lib.hid (H.out.kpNo K1.out)
    have HE := Lib.hid hE
    clear hE
    go_wp2_with fail
    refine (rtaken_any HR1.out hlen c).mono ?_
    rintro e w2 ⟨v, rfl, a1, a2, _⟩
    have a1 := a1.rd
    obtain ⟨B, q1, rfl⟩ := a1.shape
    have hl1 := flt_len R c
    obtain ⟨hp3, hp4⟩ := box2 HP.out (KB.out.no a2)
    have KB2 := Lib.hid (KB.out.no a2)
    have K2 := Lib.hid (K1.out.no a2); have H1 := Lib.hid a1
    clear a1 a2 hp1 hp2
    generalize hL : flt R c = L at *
    have HL := Lib.hid hL
    clear hL
    go_wp2
    go_loopw [8] (fun i wr => ∃ k : Nat, i = .int .i64 k ∧ k ≤ L.length ∧ rover (L.take k) a b = false ∧ Kp No w2 wr) (fun i _ => L.length - (intOf i).toNat)
    case atStart => exact ⟨0, rfl, by omega, rfl, Kp.refl _ _⟩
    case round =>
      obtain ⟨k, rfl, hk, hin, hK⟩ := hrel
      obtain ⟨hp1, hp2⟩ := box2 HP.out (KB2.out.no hK)
      have HK := Lib.hid hK
      by_cases hlt : k < L.length
      · obtain ⟨x, hx⟩ : ∃ x, L[k]? = some x := ⟨_, List.getElem?_eq_getElem hlt⟩
        have HRD := Lib.hid (H1.out.kpNo hK)
        rcases H1.out with ⟨hv, he⟩ | ⟨g, o, cap', hv, _⟩
        · rw [he] at hlt; simp at hlt
        simp only [Value.slice.injEq] at hv
        obtain ⟨rfl, _, rfl⟩ := hv
        obtain ⟨hc1, hc2⟩ := HRD.out.winAt hx
        have hsn := rover_snoc L a b k x hx
        rw [hin, Bool.false_or] at hsn
        have hany : (decide (x.1 < b) && decide (a < x.2)) = true → rover L a b = true := fun h => by
          simp only [rover, List.any_eq_true]; exact ⟨x, List.mem_of_getElem? hx, h⟩
        have HSN := Lib.hid hsn; have HANY := Lib.hid hany
        have hltI : (k : Int) < (L.length : Int) := by omega
        clear hin hK hx hsn hany
        cases h1 : decide (x.1 < b) with
        | true =>
          cases h2 : decide (a < x.2) with
          | true =>
            obtain rfl : r = 3 := by rw [HE.out, HANY.out (by simp [h1, h2])]; rfl
            have hrr : Hid (rtakeR R c a b = R) := by unfold Hid rtakeR; rw [← HRR.out]; rfl
            go_wp2
            go_quiet (fail)
            go_wp2
            go_ret
            exact ⟨rfl, by rw [hrr.out]; exact RefTo.same H.out (K2.out.no (HK.out.drewN _))⟩
          | false =>
            go_wp2
            go_quiet (fail)
            go_wp2
            go_roundw
            case rel => exact ⟨k + 1, by go_num, by omega, by rw [HSN.out, h1, h2]; rfl, HK.out.drewN _⟩
            case measure => simp [intOf]; omega
        | false =>
          go_wp2
          go_quiet (fail)
          go_wp2
          go_roundw
          case rel => exact ⟨k + 1, by go_num, by omega, by rw [HSN.out, h1]; rfl, HK.out.drewN _⟩
          case measure => simp [intOf]; omega
      · obtain rfl : k = L.length := by omega
        rw [List.take_length] at hin
        obtain rfl : r = 0 := by rw [HE.out, hin]; rfl
        have hrr : Hid (rtakeR R c a b = insR R c a b) := by unfold Hid rtakeR; rw [← HRR.out]; rfl
        have hd0 : ¬ (L.length : Int) < (L.length : Int) := by omega
        have hd1 : ¬ (4096 : Int) ≤ (L.length : Int) := by omega
        have K3 := Lib.hid (K2.out.no hK)
        have KB3 := Lib.hid (KB2.out.no hK)
        clear hin hK
        go_wp2
        go_loopw [9] (fun i wr' => ∃ k : Nat, i = .int .i64 k ∧ k ≤ R.length ∧ (∀ (j : Nat) (y : Rw), j < k → R[j]? = some y → ¬ (y.1 = c ∧ a ≤ y.2.1)) ∧ Kp No wr wr') (fun i _ => R.length - (intOf i).toNat)
        case atStart => exact ⟨0, rfl, by omega, by omega, Kp.refl _ _⟩
        case round =>
          obtain ⟨k, rfl, hk', hnot, hK⟩ := hrel
          have HK := Lib.hid hK
          have HR4 := Lib.hid (H.out.kpNo (K3.out.no hK))
          have hb := (blk_cell HR4.out.blk 0).trans rfl
          obtain ⟨hp7, hp8⟩ := box2 HP.out (KB3.out.no hK)
          have KB4 := Lib.hid (KB3.out.no hK)
          have K4 := Lib.hid (K3.out.no hK)
          have HRD := Lib.hid H.out.rd
          simp only [List.getElem?_toArray, List.getElem?_cons_zero] at hb
          have hb' : ∀ n ob, ((wr.drewN n).alloc ob).cell? ⟨br, 0, none⟩ = some (.slice A R.length cap) := fun n o => ((Kp.refl No wr).drewN n).alloc o |>.cellS hb (no_no _)
          clear hK
          by_cases hlt : k < R.length
          · obtain ⟨y, hy⟩ : ∃ y, R[k]? = some y := ⟨_, List.getElem?_eq_getElem hlt⟩
            rcases H.out.rd with ⟨hv, he⟩ | ⟨g, o, cap', hv, _⟩
            · rw [he] at hlt; simp at hlt
            simp only [Value.slice.injEq] at hv
            obtain ⟨rfl, _, rfl⟩ := hv
            obtain ⟨hc1, hc2, hc3, hc4⟩ := HR4.out.rd.rowAt hy
            have hltI : (k : Int) < (R.length : Int) := by omega
            have hltD : decide ((k : Int) < (R.length : Int)) = true := decide_eq_true hltI
            have HY := Lib.hid hy
            clear hy hlt
            cases g1 : (y.1 != c) with
            | true =>
              have HN := Lib.hid hnot
              clear hnot
              go_wp2
              go_quiet (fail)
              go_wp2
              go_roundw
              case rel =>
                refine ⟨k + 1, by go_num, by omega, fun j z hj hz => ?_, HK.out.drewN _⟩
                by_cases hjk : j = k
                · subst hjk
                  rw [HY.out] at hz
                  obtain rfl : y = z := Option.some.inj hz
                  intro e
                  simp [e.1] at g1
                · exact HN.out j z (by omega) hz
              case measure => simp [intOf]; omega
            | false =>
              cases g2 : decide (y.2.1 < a) with
              | true =>
                have HN := Lib.hid hnot
                clear hnot
                go_wp2
                go_quiet (fail)
                go_wp2
                go_roundw
                case rel =>
                  refine ⟨k + 1, by go_num, by omega, fun j z hj hz => ?_, HK.out.drewN _⟩
                  by_cases hjk : j = k
                  · subst hjk
                    rw [HY.out] at hz
                    obtain rfl : y = z := Option.some.inj hz
                    intro e
                    have := of_decide_eq_true g2
                    omega
                  · exact HN.out j z (by omega) hz
                case measure => simp [intOf]; omega
              | false =>
                have hpk := posR_eq R c a k hk' hnot (fun z hz => by rw [HY.out] at hz; obtain rfl : y = z := Option.some.inj hz; have h1 := of_decide_eq_false g2; exact ⟨by simpa using g1, by omega⟩)
                obtain ⟨v3, hsl, hrd3, _⟩ := HRD.out.upto elR k hk' k rfl
                obtain ⟨v4, hsl4, hrd4, _⟩ := HRD.out.from elR k hk' k rfl
                obtain ⟨B3, q3, rfl⟩ := hrd3.shape
                obtain ⟨B4, q4, rfl⟩ := hrd4.shape
                have HRa := Lib.hid hrd3; have HRb := Lib.hid hrd4
                have hI : insR R c a b = [] ++ R.take k ++ [(c, (a, b))] ++ R.drop k := by unfold insR; rw [hpk]; rfl
                have hl3 : (R.take k).length ≤ 1000 := by rw [List.length_take]; omega
                have hl4 : (R.drop k).length ≤ 1000 := by rw [List.length_drop]; omega
                have HI := Lib.hid hI
                generalize R.take k = l1 at *
                generalize R.drop k = l2 at *
                clear hrd3 hrd4 hpk hI hnot
                go_wp2
                go_quiet (fail)
                go_wp2_with (at_builtin; refine wpl_append elR rfl (.tmp 79) (.tmp 85) rfl rfl rfl (l := []) (m := l1) ?c1 ?c2 ?c3 ?c4 ?c5)
                case c1 => exact (NewS.empty RK 59 _).own
                case c2 => exact (HRa.out.kpNo ((K4.out.drewN _).alloc _))
                case c3 => show 0 + l1.length ≤ maxLen; unfold maxLen; omega
                case c4 => show (0 + l1.length) * 24 ≤ _; omega
                case c5 =>
                  intro v5 w5 k1 k2 k3
                  have Q5 := Lib.hid (NewS.app2 k1 k2 k3 (Kp.refl _ _) (NewS.empty RK 59 _) (by simp))
                  clear k1 k2 k3
                  obtain ⟨A5, q5, rfl⟩ := Q5.out.own.rd.shape
                  have KW5 := Lib.hid ((K4.out.drewN _).no Q5.out.kp)
                  have HR5 := Lib.hid (H.out.kpNo KW5.out)
                  have hb5 := (blk_cell HR5.out.blk 0).trans rfl
                  obtain ⟨hp5, hp6⟩ := box2 HP.out ((KB4.out.drewN _).no Q5.out.kp)
                  simp only [List.getElem?_toArray, List.getElem?_cons_zero] at hb5
                  go_wp2_with (at_builtin; refine wpl_append elR rfl (.tmp 87) (.tmp 91) rfl rfl rfl (l := [] ++ l1) (m := [(c, (a, b))]) ?d1 ?d2 ?d3 ?d4 ?d5)
                  case d1 => exact (Q5.out.alloc _).own
                  case d2 => exact Rd.litAt RK 59 _ _ [(c, (a, b))] rfl (by unfold maxLen; simp) _ _ rfl rfl
                  case d3 => show l1.length + 1 ≤ maxLen; unfold maxLen; omega
                  case d4 => show (l1.length + 1) * 24 ≤ _; omega
                  case d5 =>
                    intro v6 w6 k1 k2 k3
                    have Q6 := Lib.hid (NewS.app2 k1 k2 k3 (Kp.refl _ _) (Q5.out.alloc _) (by simp))
                    clear k1 k2 k3
                    obtain ⟨A6, q6, rfl⟩ := Q6.out.own.rd.shape
                    have Q6b := Q6.out
                    rw [List.length_append] at Q6b
                    have Q6c := Lib.hid Q6b
                    clear Q6b
                    have KW6 := Lib.hid ((K4.out.drewN _).no Q6.out.kp)
                    have HR6 := Lib.hid (H.out.kpNo KW6.out)
                    have hb6 := (blk_cell HR6.out.blk 0).trans rfl
                    simp only [List.getElem?_toArray, List.getElem?_cons_zero] at hb6
                    go_wp2_with (at_builtin; refine wpl_append elR rfl (.tmp 93) (.tmp 99) rfl rfl rfl (l := [] ++ l1 ++ [(c, (a, b))]) (m := l2) ?e1 ?e2 ?e3 ?e4 ?e5)
                    case e1 => exact Q6.out.own
                    case e2 => exact HRb.out.kpNo KW6.out
                    case e3 => simp; unfold maxLen; omega
                    case e4 => simp; omega
                    case e5 =>
                      intro v7 w7 k1 k2 k3
                      have Q7 := Lib.hid (NewS.app2 k1 k2 k3 (Kp.refl _ _) Q6c.out (by omega))
                      clear k1 k2 k3
                      obtain ⟨A7, q7, rfl⟩ := Q7.out.own.rd.shape
                      have KW7 := Lib.hid ((K4.out.drewN _).no Q7.out.kp)
                      have HR7 := Lib.hid (H.out.kpNo KW7.out)
                      have hb7 := (blk_cell HR7.out.blk 0).trans rfl
                      have hbf7 := blk_free HR7.out.blk 0
                      go_wp2
                      go_ret
                      refine ⟨rfl, ?_⟩
                      have h7 := Q7.out
                      simp only [List.length_append, List.length_cons] at h7
                      have hll : [] ++ l1 ++ [(c, (a, b))] ++ l2 = l1 ++ (c, (a, b)) :: l2 := by simp
                      rw [hrr.out, HI.out, hll]
                      exact RefTo.store H.out (K4.out.drewN _) h7
          · skip
            have hpk := posR_eq R c a k hk' hnot (fun z hz => absurd (List.getElem?_eq_some_iff.1 hz).1 hlt)
            obtain ⟨v3, hsl, hrd3, _⟩ := HRD.out.upto elR k hk' k rfl
            obtain ⟨v4, hsl4, hrd4, _⟩ := HRD.out.from elR k hk' k rfl
            obtain ⟨B3, q3, rfl⟩ := hrd3.shape
            obtain ⟨B4, q4, rfl⟩ := hrd4.shape
            have HRa := Lib.hid hrd3; have HRb := Lib.hid hrd4
            have hI : insR R c a b = [] ++ R.take k ++ [(c, (a, b))] ++ R.drop k := by unfold insR; rw [hpk]; rfl
            have hl3 : (R.take k).length ≤ 1000 := by rw [List.length_take]; omega
            have hl4 : (R.drop k).length ≤ 1000 := by rw [List.length_drop]; omega
            have HI := Lib.hid hI
            generalize R.take k = l1 at *
            generalize R.drop k = l2 at *
            clear hrd3 hrd4 hpk hI hnot
            have hk3 : decide ((k : Int) < (R.length : Int)) = false := decide_eq_false (by omega)
            go_wp2
            go_quiet (fail)
            go_wp2_with (at_builtin; refine wpl_append elR rfl (.tmp 79) (.tmp 85) rfl rfl rfl (l := []) (m := l1) ?c1 ?c2 ?c3 ?c4 ?c5)
            case c1 => exact (NewS.empty RK 59 _).own
            case c2 => exact (HRa.out.kpNo ((K4.out.drewN _).alloc _))
            case c3 => show 0 + l1.length ≤ maxLen; unfold maxLen; omega
            case c4 => show (0 + l1.length) * 24 ≤ _; omega
            case c5 =>
              intro v5 w5 k1 k2 k3
              have Q5 := Lib.hid (NewS.app2 k1 k2 k3 (Kp.refl _ _) (NewS.empty RK 59 _) (by simp))
              clear k1 k2 k3
              obtain ⟨A5, q5, rfl⟩ := Q5.out.own.rd.shape
              have KW5 := Lib.hid ((K4.out.drewN _).no Q5.out.kp)
              have HR5 := Lib.hid (H.out.kpNo KW5.out)
              have hb5 := (blk_cell HR5.out.blk 0).trans rfl
              obtain ⟨hp5, hp6⟩ := box2 HP.out ((KB4.out.drewN _).no Q5.out.kp)
              simp only [List.getElem?_toArray, List.getElem?_cons_zero] at hb5
              go_wp2_with (at_builtin; refine wpl_append elR rfl (.tmp 87) (.tmp 91) rfl rfl rfl (l := [] ++ l1) (m := [(c, (a, b))]) ?d1 ?d2 ?d3 ?d4 ?d5)
              case d1 => exact (Q5.out.alloc _).own
              case d2 => exact Rd.litAt RK 59 _ _ [(c, (a, b))] rfl (by unfold maxLen; simp) _ _ rfl rfl
              case d3 => show l1.length + 1 ≤ maxLen; unfold maxLen; omega
              case d4 => show (l1.length + 1) * 24 ≤ _; omega
              case d5 =>
                intro v6 w6 k1 k2 k3
                have Q6 := Lib.hid (NewS.app2 k1 k2 k3 (Kp.refl _ _) (Q5.out.alloc _) (by simp))
                clear k1 k2 k3
                obtain ⟨A6, q6, rfl⟩ := Q6.out.own.rd.shape
                have Q6b := Q6.out
                rw [List.length_append] at Q6b
                have Q6c := Lib.hid Q6b
                clear Q6b
                have KW6 := Lib.hid ((K4.out.drewN _).no Q6.out.kp)
                have HR6 := Lib.hid (H.out.kpNo KW6.out)
                have hb6 := (blk_cell HR6.out.blk 0).trans rfl
                simp only [List.getElem?_toArray, List.getElem?_cons_zero] at hb6
                go_wp2_with (at_builtin; refine wpl_append elR rfl (.tmp 93) (.tmp 99) rfl rfl rfl (l := [] ++ l1 ++ [(c, (a, b))]) (m := l2) ?e1 ?e2 ?e3 ?e4 ?e5)
                case e1 => exact Q6.out.own
                case e2 => exact HRb.out.kpNo KW6.out
                case e3 => simp; unfold maxLen; omega
                case e4 => simp; omega
                case e5 =>
                  intro v7 w7 k1 k2 k3
                  have Q7 := Lib.hid (NewS.app2 k1 k2 k3 (Kp.refl _ _) Q6c.out (by omega))
                  clear k1 k2 k3
                  obtain ⟨A7, q7, rfl⟩ := Q7.out.own.rd.shape
                  have KW7 := Lib.hid ((K4.out.drewN _).no Q7.out.kp)
                  have HR7 := Lib.hid (H.out.kpNo KW7.out)
                  have hb7 := (blk_cell HR7.out.blk 0).trans rfl
                  have hbf7 := blk_free HR7.out.blk 0
                  go_wp2
                  go_ret
                  refine ⟨rfl, ?_⟩
                  have h7 := Q7.out
                  simp only [List.length_append, List.length_cons] at h7
                  have hll : [] ++ l1 ++ [(c, (a, b))] ++ l2 = l1 ++ (c, (a, b)) :: l2 := by simp
                  rw [hrr.out, HI.out, hll]
                  exact RefTo.store H.out (K4.out.drewN _) h7
end Go.Proofs.Ytihnbgokkhbjnaa
