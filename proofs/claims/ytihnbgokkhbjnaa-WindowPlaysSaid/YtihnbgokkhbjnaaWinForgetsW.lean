/- WindowForgets: the walk. -/
import Derived.Test.YtihnbgokkhbjnaaWinL
namespace Go.Proofs.Ytihnbgokkhbjnaa
set_option linter.unusedVariables false
set_option linter.unusedSimpArgs false
open Go.RowKit

theorem drop_filter {l : List (Int × Int)} (hw : WFL l) (m : Int) : l.drop (place l m) = l.filter (fun x => decide (m < x.2)) := by
  have h1 : (l.take (place l m)).filter (fun x => decide (m < x.2)) = [] := by
    rw [List.filter_eq_nil_iff]
    intro x hx
    have := place_before hx
    simp; omega
  have h2 : (l.drop (place l m)).filter (fun x => decide (m < x.2)) = l.drop (place l m) := by
    rw [List.filter_eq_self]
    intro x hx
    have := place_behind hw hx
    simp; omega
  conv => rhs; rw [← List.take_append_drop (place l m) l, List.filter_append, h1, h2, List.nil_append]

theorem AtT.base {w w1 w2 : World} {bt : Nat} {T : Int → List (Int × Int)} (hk : Kp No w w1) (h : AtT w1 bt T w2) : AtT w bt T w2 := by
  obtain ⟨F, h1, h2, h3, h4⟩ := h
  have := hk.size
  exact ⟨F, h1, hk.no h2, fun k hk => Nat.le_trans this (h3 k hk), Nat.le_trans this h4⟩

theorem take_filter_snoc (l : List (Int × Int)) (k : Nat) (x : Int × Int) (m : Int) (h : l[k]? = some x) :
    (l.take (k + 1)).filter (fun x => decide (m < x.2)) = (l.take k).filter (fun x => decide (m < x.2)) ++ if m < x.2 then [x] else [] := by
  rw [List.take_add_one, h, List.filter_append]
  congr 1
  by_cases hx : m < x.2 <;> simp [hx]

theorem AK_at {w : World} {A : Option Addr} {n cap : Nat} {l : List WAct} (h : RdA AK w (.slice A n cap) l) {i : Nat} {x : WAct} (hx : l[i]? = some x) :
    ∃ g o, A = some ⟨g, o, none⟩ ∧ w.cell? ⟨g, o + i * 4, none⟩ = some (.int .u8 x.k) ∧ w.cell? ⟨g, o + i * 4 + 1, none⟩ = some (.int .i64 x.c) ∧ w.cell? ⟨g, o + i * 4 + 2, none⟩ = some (.int .i64 x.x.1) ∧ w.cell? ⟨g, o + i * 4 + 3, none⟩ = some (.int .i64 x.x.2) := by
  obtain ⟨g, o, hA, hu⟩ := h.at hx
  exact ⟨g, o, hA, hu 0 _ rfl, hu 1 _ rfl, hu 2 _ rfl, hu 3 _ rfl⟩

set_option maxHeartbeats 2000000 in
set_option maxRecDepth 100000 in
theorem forgets_any (A : Option Addr) (cap : Nat) (l : List WAct) (c m : Int) (w : World) (hl : RdA AK w (.slice A l.length cap) l) (hlc : l.length ≤ cap) (hc : cap ≤ maxLen) (hg : ∀ a ∈ l, 0 ≤ a.k) :
    Calls Try.prog 4 #[.slice A l.length cap, .int .i64 c, .int .i64 m] w fun e w' => e = .returned (.bool true) ∧ Kp No w w' := by
  obtain ⟨acts, ha⟩ : ∃ acts, acts = l.take 200 := ⟨_, rfl⟩
  obtain ⟨N, hN⟩ : ∃ N, N = min 200 l.length := ⟨_, rfl⟩
  have hal : acts.length = N := by rw [ha, List.length_take, hN]
  have hrd : RdA AK w (.slice A N cap) acts := by rw [hN, ha]; exact hl.take 200
  have hga : ∀ a ∈ acts, 0 ≤ a.k := fun a h => hg a (List.mem_of_mem_take (ha ▸ h))
  have hNb : N ≤ 200 := by omega
  have HN := Lib.hid hN; have HRD := Lib.hid hrd; have HG := Lib.hid hga; have HAL := Lib.hid hal
  clear hl hN hrd hg hga ha hal
  go_enter Try.func4, Try.ntmps4
  go_wp2_with fail
  refine (shown_any _).mono ?_
  rintro e w1 ⟨rfl, k1⟩
  have K1 := Lib.hid k1; clear k1
  go_wp2_with fail
  refine (new_at _).mono ?_
  rintro e w2 ⟨bt, rfl, r2⟩
  have R2 := Lib.hid (AtT.base K1.out r2); clear r2
  go_wp2_with fail
  refine (few_any hlc hc).mono ?_
  rintro e w3 ⟨rfl, rfl⟩
  rw [← HN.out]
  go_wp2
  go_loopw [10, 21] (fun _ i wr => ∃ k : Nat, i = .int .i64 k ∧ k ≤ N ∧ AtT w bt (playT (acts.take k)) wr) (fun _ i _ => N - (intOf i).toNat)
  case atStart => exact ⟨0, rfl, by omega, R2.out⟩
  case round =>
    obtain ⟨k, rfl, hk, hat⟩ := hrel
    by_cases hlt : k < N
    · obtain ⟨a, hx⟩ : ∃ a, acts[k]? = some a := ⟨_, List.getElem?_eq_getElem (by have := HAL.out; omega)⟩
      obtain ⟨g, o, rfl, c0, c1, c2, c3⟩ := AK_at (HRD.out.kpNo hat.kp) hx
      have hka : 0 ≤ a.k := HG.out a (List.mem_of_getElem? hx)
      have hltI : (k : Int) < (N : Int) := by omega
      have HT := Lib.hid hat; have HS := Lib.hid (playT_snoc acts k a hx)
      clear hat hx
      go_wp2_with fail
      refine (does_at (HT.out.kpNo ((Kp.refl _ _).alloc _)) (playT_wf _) a hka _ rfl).mono ?_
      rintro e w5 ⟨rfl, r5⟩
      have R5 := Lib.hid (HS.out ▸ r5); clear r5
      go_wp2
      go_roundw
      case rel => exact ⟨k + 1, by go_num, by omega, R5.out⟩
      case measure => simp [intOf]; omega
    · obtain rfl : k = N := by omega
      have hfull : Hid (acts.take k = acts) := List.take_of_length_le (by rw [HAL.out]; exact Nat.le_refl _)
      rw [hfull.out] at hat
      have hwf := Lib.hid (playT_wf acts)
      generalize playT acts = T at hat hwf
      have HT := Lib.hid hat
      clear hat
      go_wp2_with fail
      refine (taken_at HT.out hwf.out c).mono ?_
      rintro e wx ⟨v, rfl, a1, a2, a3, a4⟩
      obtain ⟨B, cb, rfl⟩ := a1.rd.shape
      have hln := (hwf.out c).len
      have V1 := Lib.hid a1.rd
      obtain ⟨F, f1, f2, f3, f4⟩ := a4
      have G1 := Lib.hid f1; have G2 := Lib.hid f2; have G3 := Lib.hid f3; have G4 := Lib.hid f4
      clear a1 a2 a3 f1 f2 f3 f4
      go_wp2
      go_loopw [11, 13, 33] (fun v _ i wr => ∃ k : Nat, i = .int .i64 k ∧ k ≤ (T c).length ∧ Own WK 23 wr v (((T c).take k).filter (fun x => decide (m < x.2))) ∧ (∀ g, v.ownBlock = some g → wx.heap.size ≤ g) ∧ Kp No wx wr) (fun _ _ i _ => (T c).length - (intOf i).toNat)
      case atStart => exact ⟨0, rfl, by omega, Own.nil _ _ _, by simp [Value.ownBlock], Kp.refl _ _⟩
      case round =>
        obtain ⟨j, rfl, hj, ho, hge, hK⟩ := hrel
        by_cases hlt2 : j < (T c).length
        · obtain ⟨x, hx⟩ : ∃ x, (T c)[j]? = some x := ⟨_, List.getElem?_eq_getElem hlt2⟩
          have HRD2 := Lib.hid (V1.out.kpNo hK)
          rcases V1.out with ⟨hv, he⟩ | ⟨g, o, cap', hv, _⟩
          · rw [he] at hlt2; simp at hlt2
          simp only [Value.slice.injEq] at hv
          obtain ⟨rfl, _, rfl⟩ := hv
          obtain ⟨hc1, hc2⟩ := HRD2.out.winAt hx
          have hsn := take_filter_snoc (T c) j x m hx
          have hfl : (((T c).take j).filter (fun x => decide (m < x.2))).length ≤ 4096 := by
            have := List.length_filter_le (fun x : Int × Int => decide (m < x.2)) ((T c).take j)
            have h2 : ((T c).take j).length ≤ (T c).length := by rw [List.length_take]; omega
            omega
          generalize ((T c).take j).filter (fun x => decide (m < x.2)) = sl at *
          have HO := Lib.hid ho; have HG2 := Lib.hid hge; have HK := Lib.hid hK; have HSN := Lib.hid hsn
          have hltI : (j : Int) < ((T c).length : Int) := by omega
          clear ho hge hK hsn hx hlt2
          by_cases hgt : m < x.2
          · go_wp2_with (at_builtin; refine wpl_append elW rfl (.tmp 41) (.tmp 43) rfl rfl rfl (l := sl) (m := [(x.1, x.2)]) ?c1 ?c2 ?c3 ?c4 ?c5)
            case c1 => exact (HO.out.alloc _).alloc _
            case c2 => exact Rd.litAt WK 23 _ _ [(x.1, x.2)] rfl (by unfold maxLen; simp) _ _ (by simp) rfl
            case c3 => show sl.length + 1 ≤ maxLen; unfold maxLen; omega
            case c4 => show (sl.length + 1) * 16 ≤ _; omega
            case c5 =>
              intro v' w' k1 k2 k3
              have Q1 := Lib.hid k1; have Q2 := Lib.hid k2; have Q3 := Lib.hid k3
              clear k1 k2 k3
              go_wp2
              go_roundw
              case rel =>
                have hsz := HK.out.size
                refine ⟨j + 1, by go_num, by omega, by rw [HSN.out, if_pos hgt]; exact Q1.out, ?_, ((HK.out.alloc _).alloc _).trans' Q2.out ?_⟩
                · intro q hq
                  rcases Q3.out q hq with e | e
                  · exact HG2.out q e
                  · omega
                · intro q hq e; have := HG2.out q e; omega
              case measure => simp [intOf]; omega
          · go_wp2
            go_roundw
            case rel => exact ⟨j + 1, by go_num, by omega, by rw [HSN.out, if_neg hgt, List.append_nil]; exact HO.out.alloc _, HG2.out, HK.out.alloc _⟩
            case measure => simp [intOf]; omega
        · obtain rfl : j = (T c).length := by omega
          rw [List.take_length] at ho
          have HO := Lib.hid ho; have HG2 := Lib.hid hge; have HK := Lib.hid hK
          clear ho hge hK
          go_wp2_with fail
          refine (forget_any (G1.out.kpNo HK.out) hwf.out m).mono ?_
          rintro e w6 ⟨rfl, F', g1, g2, g3⟩
          have hwant : Hid (Rd WK w6 _ _) := (HO.out.kp g2 fun q hq hF => by have := G1.out.lt.2 q hF; have := HG2.out q hq; omega).rd
          have hat6 : Hid (AtT w bt (fun c => (T c).drop (place (T c) m)) w6) := AtT.to (G1.out.kpNo HK.out) (G2.out.no HK.out) G3.out G4.out ⟨F', g1, g2, g3⟩
          have hwf6 := Lib.hid (hwf.out.forget' m)
          clear g1 g2 g3
          go_wp2_with fail
          refine (taken_at hat6.out hwf6.out c).mono ?_
          rintro e w7 ⟨v7, rfl, a1, a2, a3, a4⟩
          have b1 := Lib.hid a1.rd; have b2 := Lib.hid a2; have b4 := Lib.hid a4
          clear a1 a2 a3 a4
          go_wp2_with fail
          refine (same_any b1.out (hwant.out.kpNo b2.out) (Nat.le_trans (hwf6.out c).len (by decide)) ?_ true ?_).mono ?_
          · exact Nat.le_trans (List.length_filter_le _ _) (Nat.le_trans hln (by decide))
          · rw [drop_filter (hwf.out c) m]; simp
          rintro e w8 ⟨rfl, k8⟩
          have D1 := Lib.hid (b4.out.kp.no k8)
          clear k8
          go_wp2
          go_ret
          exact ⟨rfl, D1.out⟩
end Go.Proofs.Ytihnbgokkhbjnaa
