/- The document's table (carfaxref06): Free, Is, Right. -/
import Derived.Test.YtihnbgokkhbjnaaWinR1
namespace Go.Proofs.Ytihnbgokkhbjnaa
set_option linter.unusedVariables false
set_option linter.unusedSimpArgs false
open Go.RowKit

set_option maxRecDepth 100000 in
theorem rfree_any {w : World} {br : Nat} {R : List Rw} {V : Value} (h : RepR w br R V) (hlen : R.length ≤ 1000) (c : Int) :
    Calls Try.prog 21 #[.pointer (some ⟨br, 0, none⟩), .int .i64 c] w (RetNew WK 23 (freeL (flt R c)) w) := by
  have hl := flt_len R c
  have H := Lib.hid h
  clear h
  go_enter Try.func21, Try.ntmps21
  go_wp2_with fail
  refine (rtaken_any H.out hlen c).mono ?_
  rintro e w1 ⟨v, rfl, a1, a2, a3⟩
  have a1 := a1.rd
  obtain ⟨A, cap, rfl⟩ := a1.shape
  have H1 := Lib.hid a1; have K1 := Lib.hid a2; have G1 := Lib.hid a3
  clear a1 a2 a3
  generalize flt R c = L at *
  go_wp2
  go_loopw [5, 7, 8] (fun v n i wr => ∃ k : Nat, i = .int .i64 k ∧ k ≤ L.length ∧ Own WK 23 wr v (fpre (L.take k)).1 ∧ n = .int .i64 (fpre (L.take k)).2 ∧ (∀ g, v.ownBlock = some g → w1.heap.size ≤ g) ∧ Kp No w1 wr) (fun _ _ i _ => L.length - (intOf i).toNat)
  case atStart => exact ⟨0, rfl, by omega, Own.nil _ _ _, rfl, by simp [Value.ownBlock], Kp.refl _ _⟩
  case round =>
    obtain ⟨k, rfl, hk, ho, rfl, hge, hK⟩ := hrel
    have hfl := fpre_len (L.take k)
    have hfl2 : (L.take k).length ≤ k := by simp; omega
    have HRD := Lib.hid (H1.out.kpNo hK)
    by_cases hlt : k < L.length
    · obtain ⟨x, hx⟩ : ∃ x, L[k]? = some x := ⟨_, List.getElem?_eq_getElem hlt⟩
      rcases H1.out with ⟨hv, he⟩ | ⟨g, o, cap', hv, _⟩
      · rw [he] at hlt; simp at hlt
      simp only [Value.slice.injEq] at hv
      obtain ⟨rfl, _, rfl⟩ := hv
      obtain ⟨hc1, hc2⟩ := HRD.out.winAt hx
      have hgw : g < w1.heap.size := World.block_lt_of_cell? w1 _ (H1.out.winAt hx).2
      have hsn := fpre_snoc L k x hx
      generalize fpre (L.take k) = s at *
      obtain ⟨sl, sf⟩ := s
      simp only at hfl
      have HO := Lib.hid ho; have HG := Lib.hid hge; have HK := Lib.hid hK; have HSN := Lib.hid hsn
      have hltI : (k : Int) < (L.length : Int) := by omega
      clear ho hge hK hsn hx hlt
      by_cases hgt : sf < x.1
      · go_wp2_with (at_builtin; refine wpl_append elW rfl (.tmp 25) (.tmp 33) rfl rfl rfl (l := sl) (m := [(sf, x.1)]) ?c1 ?c2 ?c3 ?c4 ?c5)
        case c1 => exact HO.out.alloc _
        case c2 => exact Rd.litAt WK 23 _ _ [(sf, x.1)] rfl (by unfold maxLen; simp) _ _ (by simp) rfl
        case c3 => show sl.length + 1 ≤ maxLen; unfold maxLen; omega
        case c4 => show (sl.length + 1) * 16 ≤ _; omega
        case c5 =>
          intro v' w' k1 k2 k3
          have Q1 := Lib.hid k1; have Q2 := Lib.hid k2; have Q3 := Lib.hid k3
          have hx2 : w'.cell? ⟨g, o + k * 2 + 1, none⟩ = some (.int .i64 x.2) := by
            refine k2.cellS (((Kp.refl _ _).alloc _).cellS hc2 (no_no _)) ?_
            intro e
            have h1 := HG.out _ e
            simp only at h1; omega
          clear k1 k2 k3
          go_wp2
          go_roundw
          case rel =>
            have hsz := HK.out.size
            refine ⟨k + 1, by go_num, by omega, by rw [HSN.out]; simp only [fstep, if_pos hgt]; exact Q1.out, by rw [HSN.out]; rfl, ?_, (HK.out.alloc _).trans' Q2.out ?_⟩
            · intro q hq
              rcases Q3.out q hq with e | e
              · exact HG.out q e
              · omega
            · intro q hq e; have := HG.out q e; omega
          case measure => simp [intOf]; omega
      · go_wp2
        go_roundw
        case rel => exact ⟨k + 1, by go_num, by omega, by rw [HSN.out]; simp only [fstep, if_neg hgt]; exact HO.out, by rw [HSN.out]; rfl, HG.out, HK.out⟩
        case measure => simp [intOf]; omega
    · obtain rfl : k = L.length := by omega
      rw [List.take_length] at *
      have hfr : freeL L = if (fpre L).2 < 1048576 then (fpre L).1 ++ [((fpre L).2, 1048576)] else (fpre L).1 := rfl
      generalize fpre L = s at *
      obtain ⟨sl, sf⟩ := s
      simp only at hfl
      have HO := Lib.hid ho; have HG := Lib.hid hge; have HK := Lib.hid hK
      have hge0 : ¬ (L.length : Int) < (L.length : Int) := by omega
      have HFR := Lib.hid hfr
      have hsz1 := K1.out.size
      clear ho hge hK hfr hlt
      by_cases hgt : sf < 1048576
      · have hfr2 := Lib.hid (HFR.out.trans (if_pos hgt))
        go_wp2_with (at_builtin; refine wpl_append elW rfl (.tmp 42) (.tmp 45) rfl rfl rfl (l := sl) (m := [(sf, 1048576)]) ?c1 ?c2 ?c3 ?c4 ?c5)
        case c1 => exact HO.out.alloc _
        case c2 => exact Rd.litAt WK 23 _ _ [(sf, 1048576)] rfl (by unfold maxLen; simp) _ _ rfl rfl
        case c3 => show sl.length + 1 ≤ maxLen; unfold maxLen; omega
        case c4 => show (sl.length + 1) * 16 ≤ _; omega
        case c5 =>
          intro v' w' k1 k2 k3
          have Q1 := Lib.hid k1; have Q2 := Lib.hid k2; have Q3 := Lib.hid k3
          clear k1 k2 k3
          go_wp2
          go_ret
          have hsz := HK.out.size
          refine ⟨_, rfl, by rw [hfr2.out]; exact Q1.out, K1.out.no ((HK.out.alloc _).trans' Q2.out fun j hj e => ?_), fun j hj => ?_⟩
          · have := HG.out j e; omega
          · rcases Q3.out j hj with e | e
            · have := HG.out j e; omega
            · omega
      · have hfr2 := Lib.hid (HFR.out.trans (if_neg hgt))
        go_wp2
        go_ret
        exact ⟨_, rfl, by rw [hfr2.out]; exact HO.out, K1.out.no HK.out, fun j hj => by have := HG.out j hj; omega⟩

set_option maxRecDepth 100000 in
theorem ris_any {w : World} {br : Nat} {R : List Rw} {V : Value} (h : RepR w br R V) (hlen : R.length ≤ 1000) (c m : Int) (r : Bool) (hr : r = (!inB m (flt R c) && (decide (0 ≤ m) && decide (m < 1048576)))) :
    Calls Try.prog 22 #[.pointer (some ⟨br, 0, none⟩), .int .i64 c, .int .i64 m] w fun e w' => e = .returned (.bool r) ∧ Kp No w w' := by
  have hl := flt_len R c
  have H := Lib.hid h
  have HRR := Lib.hid hr
  clear h hr
  go_enter Try.func22, Try.ntmps22
  go_wp2_with fail
  refine (rtaken_any H.out hlen c).mono ?_
  rintro e w1 ⟨v, rfl, a1, a2, a3⟩
  have a1 := a1.rd
  obtain ⟨A, cap, rfl⟩ := a1.shape
  have H1 := Lib.hid a1; have K1 := Lib.hid a2
  clear a1 a2 a3
  generalize flt R c = L at *
  go_wp2
  go_loopw [8] (fun i wr => ∃ k : Nat, i = .int .i64 k ∧ k ≤ L.length ∧ inB m (L.take k) = false ∧ Kp No w1 wr) (fun i _ => L.length - (intOf i).toNat)
  case atStart => exact ⟨0, rfl, by omega, rfl, Kp.refl _ _⟩
  case round =>
    obtain ⟨k, rfl, hk, hin, hK⟩ := hrel
    by_cases hlt : k < L.length
    · obtain ⟨x, hx⟩ : ∃ x, L[k]? = some x := ⟨_, List.getElem?_eq_getElem hlt⟩
      have HRD := Lib.hid (H1.out.kpNo hK)
      rcases H1.out with ⟨hv, he⟩ | ⟨g, o, cap', hv, _⟩
      · rw [he] at hlt; simp at hlt
      simp only [Value.slice.injEq] at hv
      obtain ⟨rfl, _, rfl⟩ := hv
      obtain ⟨hc1, hc2⟩ := HRD.out.winAt hx
      have hsn := inB_snoc m L k x hx
      rw [hin, Bool.false_or] at hsn
      have hany : (decide (x.1 ≤ m) && decide (m < x.2)) = true → inB m L = true := fun h => by
        simp only [inB, List.any_eq_true]; exact ⟨x, List.mem_of_getElem? hx, h⟩
      have HSN := Lib.hid hsn; have HK := Lib.hid hK; have HANY := Lib.hid hany
      have hltI : (k : Int) < (L.length : Int) := by omega
      clear hin hK hx hsn hany
      by_cases h1 : x.1 ≤ m
      · by_cases h2 : m < x.2
        · have hrt : r = false := by rw [HRR.out, HANY.out (by simp [h1, h2])]; simp
          subst hrt
          go_wp2
          go_ret
          exact ⟨rfl, K1.out.no HK.out⟩
        · go_wp2
          go_roundw
          case rel => exact ⟨k + 1, by go_num, by omega, by rw [HSN.out]; simp [h2], HK.out⟩
          case measure => simp [intOf]; omega
      · go_wp2
        go_roundw
        case rel => exact ⟨k + 1, by go_num, by omega, by rw [HSN.out]; simp [h1], HK.out⟩
        case measure => simp [intOf]; omega
    · obtain rfl : k = L.length := by omega
      rw [List.take_length] at hin
      have hrf := HRR.out
      rw [hin] at hrf
      simp only [Bool.not_false, Bool.true_and] at hrf
      have HK := Lib.hid hK
      clear hin hK
      have hd0 : ¬ (L.length : Int) < (L.length : Int) := by omega
      by_cases h1 : 0 ≤ m
      · by_cases h2 : m < 1048576
        · obtain rfl : r = true := by rw [hrf]; simp [h1, h2]
          clear hrf
          go_wp2
          go_ret
          exact ⟨rfl, K1.out.no HK.out⟩
        · obtain rfl : r = false := by rw [hrf]; simp [h2]
          clear hrf
          go_wp2
          go_ret
          exact ⟨rfl, K1.out.no HK.out⟩
      · obtain rfl : r = false := by rw [hrf]; simp [h1]
        clear hrf
        go_wp2
        go_ret
        exact ⟨rfl, K1.out.no HK.out⟩

def okW (a b : Int) : Prop := 0 ≤ a ∧ a < b ∧ b ≤ 1048576
set_option maxRecDepth 100000 in
theorem rright_any (w : World) (a b : Int) (r : Bool) (hr : r = (decide (0 ≤ a) && decide (a < b) && decide (b ≤ 1048576))) :
    Calls Try.prog 38 #[.agg #[.int .i64 a, .int .i64 b]] w fun e w' => e = .returned (.bool r) ∧ Kp No w w' := by
  have KA : Hid (Kp No w (w.alloc (.cells #[.int .i64 a, .int .i64 b] 23))) := (Kp.refl _ _).alloc _
  by_cases h1 : 0 ≤ a
  · by_cases h2 : a < b
    · by_cases h3 : b ≤ 1048576
      · obtain rfl : r = true := by rw [hr]; simp [h1, h2, h3]
        clear hr
        go_enter Try.func38, Try.ntmps38
        go_wp2
        go_ret
        exact ⟨rfl, KA.out⟩
      · obtain rfl : r = false := by rw [hr]; simp [h3]
        clear hr
        go_enter Try.func38, Try.ntmps38
        go_wp2
        go_ret
        exact ⟨rfl, KA.out⟩
    · obtain rfl : r = false := by rw [hr]; simp [h2]
      clear hr
      go_enter Try.func38, Try.ntmps38
      go_wp2
      go_ret
      exact ⟨rfl, KA.out⟩
  · obtain rfl : r = false := by rw [hr]; simp [h1]
    clear hr
    go_enter Try.func38, Try.ntmps38
    go_wp2
    go_ret
    exact ⟨rfl, KA.out⟩
end Go.Proofs.Ytihnbgokkhbjnaa
