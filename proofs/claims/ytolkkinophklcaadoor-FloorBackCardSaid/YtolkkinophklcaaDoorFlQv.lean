/- carfaxref03.wrong. -/
import Derived.Test.YtolkkinophklcaaDoorFlQt
namespace Go.Proofs.YtolkkinophklcaaDoor
set_option linter.unusedVariables false
set_option linter.unusedSimpArgs false
open Go.RowKit

theorem strAt {w : World} {l : List ByteArray} {g o n cap : Nat} (h : Rd SRK w (.slice (some ⟨g, o, none⟩) n cap) l) {i : Nat} {x : ByteArray} (hx : l[i]? = some x) : w.cell? ⟨g, o + i, none⟩ = some (.string x) := by
  have := h.at rfl hx (j := 0) rfl
  simpa [SRK] using this

set_option maxHeartbeats 1000000 in
set_option maxRecDepth 100000 in
theorem qwrong_any {w : World} {v : Value} {R : List ByteArray} (hv : Own SRK 9 w v R) (i : Nat) (row first : ByteArray) (hr : R[i]? = some row) (hf : R[0]? = some first) (hi : i ≤ 1000000) (hrs : row.size ≤ 9000000) (hfs : first.size ≤ 9000000) :
    Calls Tryd.prog 32 #[v, .int .i64 (i : Int)] w fun e w' => e = .returned (.bool (!mayB row first i)) ∧ Kp No w w' := by
  obtain ⟨Z, hZ⟩ : ∃ Z, Z = !mayB row first i := ⟨_, rfl⟩
  rw [← hZ]
  have hil := (List.getElem?_eq_some_iff.1 hr).1
  rcases hv.b with ⟨_, rfl⟩ | ⟨g, cap, rfl, hcm, hlc, _⟩
  · simp at hr
  obtain ⟨N, hN⟩ : ∃ N, N = R.length := ⟨_, rfl⟩
  rw [← hN] at hv hil ⊢
  have hcr : ∀ k, (w.drewN k).cell? ⟨g, i, none⟩ = some (.string row) := fun k => by have := strAt (hv.rd.drewN k) hr; simpa using this
  have hcf : ∀ k, (w.drewN k).cell? ⟨g, 0, none⟩ = some (.string first) := fun k => by have := strAt (hv.rd.drewN k) hf; simpa using this
  have hcr0 : w.cell? ⟨g, i, none⟩ = some (.string row) := hcr 0
  have hcf0 : w.cell? ⟨g, 0, none⟩ = some (.string first) := hcf 0
  have HR : Hid (Z = !mayB row first i) := Lib.hid hZ
  obtain ⟨n, hn⟩ : ∃ n, n = row.size := ⟨_, rfl⟩
  have hnI : ((row.size : Nat) : Int) = (n : Int) := by omega
  have HN := Lib.hid hn
  obtain ⟨m, hm⟩ : ∃ m, m = first.size := ⟨_, rfl⟩
  have hmI : ((first.size : Nat) : Int) = (m : Int) := by omega
  have HM := Lib.hid hm
  have hno : ¬ (i < 16 ∧ n ≠ 0 ∧ n ≤ 16 ∧ n = m) → Z = true := fun h => by
    rw [HR.out]
    cases e : mayB row first i with
    | false => rfl
    | true => obtain ⟨h1, h2, h3, h4, _⟩ := mayB_iff.1 e; exact absurd ⟨h1, by rw [hn]; exact h2, by rw [hn]; exact h3, by rw [hn, hm]; exact h4⟩ h
  have HNO := Lib.hid hno
  have hem : row.toList.isEmpty = decide (n = 0) := by
    rw [HN.out, Lib.toList_data, Lib.size_eq]
    cases row.data.toList <;> simp
  have hiN : (i : Int) < (N : Int) := by omega
  have h0N : (0 : Nat) < N := by omega
  have h0NI : (0 : Int) < (N : Int) := by omega
  clear hZ hno hn hm hr hf hN hil hv
  by_cases h1 : 16 ≤ i
  · have h1I : decide ((16 : Int) ≤ (i : Int)) = true := by simp; omega
    have HE := Lib.hid (HNO.out (by omega))
    clear hem h1
    go_enter Tryd.func32, Tryd.ntmps32
    go_wp2_with fail
    go_quiet (fail)
    go_wp2_with fail
    go_ret
    exact ⟨by rw [HE.out]; rfl, (Kp.refl _ _).drewN _⟩
  have h1I : decide ((16 : Int) ≤ (i : Int)) = false := by simp; omega
  by_cases h2 : n = 0
  · have HE := Lib.hid (HNO.out (by omega))
    have hem2 : row.toList.isEmpty = true := by rw [hem]; simp [h2]
    have hem3 : row.toList = [] := by simpa using hem2
    clear hem h1 h2
    go_enter Tryd.func32, Tryd.ntmps32
    go_wp2_with fail
    go_quiet (fail)
    go_wp2_with fail
    go_ret
    exact ⟨by rw [HE.out]; rfl, (Kp.refl _ _).drewN _⟩
  have hem2 : row.toList.isEmpty = false := by rw [hem]; simp [h2]
  by_cases h3 : 16 < n
  · have HE := Lib.hid (HNO.out (by omega))
    have h3I : decide ((16 : Int) < (n : Int)) = true := by simp; omega
    clear hem h1 h2 h3
    go_enter Tryd.func32, Tryd.ntmps32
    go_wp2_with fail
    go_quiet (fail)
    go_wp2_with fail
    go_ret
    exact ⟨by rw [HE.out]; rfl, (Kp.refl _ _).drewN _⟩
  have h3I : decide ((16 : Int) < (n : Int)) = false := by simp; omega
  by_cases h4 : n = m
  · have h4b : ((n : Int) != (m : Int)) = false := by simp; omega
    have h4c : (n != m) = false := by simp [h4]
    have HG := Lib.hid (show i < 16 ∧ n ≠ 0 ∧ n ≤ 16 ∧ n = m by omega)
    have hn16 : n ≤ 16 := by omega
    clear hem h1 h2 h3 h4
    go_enter Tryd.func32, Tryd.ntmps32
    go_wp2_with fail
    go_quiet (fail)
    go_wp2_with fail
    go_loopg [5] (n + 1) (fun g2 kk wr => ∃ k d : Nat, g2 = n + 1 - k ∧ kk = .int .i64 k ∧ k ≤ n ∧ (∀ j, j < k → kdS row j ≠ 0) ∧ wr = w.drewN d)
    case atStart => exact ⟨0, _, rfl, rfl, by omega, fun j hj => by omega, rfl⟩
    case round =>
      obtain ⟨k, d, hgk, rfl, hk, hz, rfl⟩ := hrel
      have HZ := Lib.hid hz
      clear hz
      by_cases hlt : k < n
      · have hltI : (k : Int) < (n : Int) := by omega
        have hwk : IntKind.i64.wrap ((k : Int) + 1) = (k : Int) + 1 := IntWalk.i64_in _ (by omega)
        have hks : k < row.size := by have := HN.out; omega
        have hbt := bt_at row k
        obtain ⟨B, hB⟩ : ∃ B, B = bt row k := ⟨_, rfl⟩
        rw [← hB] at hbt
        obtain ⟨K, hK⟩ : ∃ K, K = kindB B := ⟨_, rfl⟩
        have hKk : K = kdS row k := by rw [hK, hB]; rfl
        have hk3 := kindB_le B
        rw [← hK] at hk3
        have HK := Lib.hid hKk
        have HZ2 : Hid (K ≠ 0 → ∀ j, j < k + 1 → kdS row j ≠ 0) := Lib.hid (fun h0 j hj => by
          rcases Nat.lt_or_ge j k with h | h
          · exact HZ.out j h
          · obtain rfl : j = k := by omega
            rw [← HK.out]; exact h0)
        clear hKk hB hlt hks
        obtain rfl | rfl | rfl | rfl : K = 0 ∨ K = 1 ∨ K = 2 ∨ K = 3 := by omega
        · have QD := Lib.hid (fun w => qdock_any B false (by rw [← hK]; rfl) w)
          have QL := Lib.hid (fun w => qlane_any B false (by rw [← hK]; rfl) w)
          have h35 : ((B : Int) != 35) = true := by
            simp; intro e
            have e : B = 35 := by omega
            rw [e] at hK; simp [kindB] at hK
          have HE := Lib.hid (show Z = true by
            rw [HR.out]
            cases e : mayB row first i with
            | false => rfl
            | true => exact absurd HK.out.symm ((mayB_iff.1 e).2.2.2.2 k (by rw [← HN.out]; omega)))
          clear hK
          go_wp2_with (first | (go_at_call 36; refine (QD.out _).mono ?_; rintro e wz ⟨rfl, hwz⟩; rw [hwz]; clear hwz) | (go_at_call 37; refine (QL.out _).mono ?_; rintro e wz ⟨rfl, hwz⟩; rw [hwz]; clear hwz))
          go_ret
          exact ⟨by rw [HE.out]; rfl, (Kp.refl _ _).drewN _⟩
        · have QD := Lib.hid (fun w => qdock_any B false (by rw [← hK]; rfl) w)
          have QL := Lib.hid (fun w => qlane_any B false (by rw [← hK]; rfl) w)
          have h35 : ((B : Int) != 35) = false := by
            have := kd_wall hK.symm
            simp [this]
          clear hK
          go_wp2_with (first | (go_at_call 36; refine (QD.out _).mono ?_; rintro e wz ⟨rfl, hwz⟩; rw [hwz]; clear hwz) | (go_at_call 37; refine (QL.out _).mono ?_; rintro e wz ⟨rfl, hwz⟩; rw [hwz]; clear hwz))
          go_roundg (n + 1 - (k + 1))
          case measure => omega
          case rel => exact ⟨k + 1, d, rfl, by go_num, by omega, HZ2.out (by decide), rfl⟩
        · have QD := Lib.hid (fun w => qdock_any B false (by rw [← hK]; rfl) w)
          have QL := Lib.hid (fun w => qlane_any B true (by rw [← hK]; rfl) w)
          clear hK
          go_wp2_with (first | (go_at_call 36; refine (QD.out _).mono ?_; rintro e wz ⟨rfl, hwz⟩; rw [hwz]; clear hwz) | (go_at_call 37; refine (QL.out _).mono ?_; rintro e wz ⟨rfl, hwz⟩; rw [hwz]; clear hwz))
          go_roundg (n + 1 - (k + 1))
          case measure => omega
          case rel => exact ⟨k + 1, d, rfl, by go_num, by omega, HZ2.out (by decide), rfl⟩
        · have QD := Lib.hid (fun w => qdock_any B true (by rw [← hK]; rfl) w)
          clear hK
          go_wp2_with (go_at_call 36; refine (QD.out _).mono ?_; rintro e wz ⟨rfl, hwz⟩; rw [hwz]; clear hwz)
          go_roundg (n + 1 - (k + 1))
          case measure => omega
          case rel => exact ⟨k + 1, d, rfl, by go_num, by omega, HZ2.out (by decide), rfl⟩
      · obtain rfl : k = n := by omega
        have hd0 : ¬ (k : Int) < (k : Int) := by omega
        have HE := Lib.hid (show Z = false by
          rw [HR.out]
          have h1 := HG.out; have h2 := HN.out; have h3 := HM.out
          rw [mayB_iff.2 ⟨h1.1, by omega, by omega, by omega, fun j hj => HZ.out j (by omega)⟩]; rfl)
        clear hlt
        go_wp2_with fail
        go_ret
        exact ⟨by rw [HE.out]; rfl, (Kp.refl _ _).drewN _⟩
  · have HE := Lib.hid (HNO.out (by omega))
    have h4b : ((n : Int) != (m : Int)) = true := by simp; omega
    have h4c : (n != m) = true := by simp [h4]
    clear hem h1 h2 h3 h4
    go_enter Tryd.func32, Tryd.ntmps32
    go_wp2_with fail
    go_quiet (fail)
    go_wp2_with fail
    go_ret
    exact ⟨by rw [HE.out]; rfl, (Kp.refl _ _).drewN _⟩
end Go.Proofs.YtolkkinophklcaaDoor
