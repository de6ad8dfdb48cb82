/- strings.Split at this program; floor.may. -/
import Derived.Test.YtolkkinophklcaaDoorFlSp
import Derived.Test.YtolkkinophklcaaDoorSpl
import Derived.Test.YtolkkinophklcaaDoorShelf
import Derived.Test.YtolkkinophklcaaDoorSnI
namespace Go.Proofs.YtolkkinophklcaaDoor
set_option linter.unusedVariables false
set_option linter.unusedSimpArgs false
open Go.RowKit

/-- A string's cell. -/
def SRK : Kd ByteArray := { sz := 1, enc := fun x => [.string x], len := fun _ => rfl, one := by intro a v hv; simp at hv; subst hv; rfl, pos := by decide }
def rowsV (R : List ByteArray) : Array Value := (R.map Value.string).toArray
theorem splitS_any (s : ByteArray) (hs : s.size ≤ 4000000000) (w : World) :
    Calls Tryd.prog 28 #[.string s, .string ⟨#[10]⟩] w fun e w' =>
      e = .returned (.slice (some ⟨w.heap.size, 0, none⟩) (pcs s.data.toList).length (pcs s.data.toList).length) ∧ w' = w.alloc (.cells (rowsV ((pcs s.data.toList).map mkB)) 9) := by
  have h := split_one Tryd.lays146 (by kernel_rfl) s 10 w (by omega)
  have hl := Lib.splitB_all ⟨#[10]⟩ (Nat.le_refl _) 0 _ s rfl
  rw [split_rows s _ rfl] at h hl
  rw [List.length_map] at hl
  rw [← hl] at h
  exact h
theorem pcs_lenle (l : List UInt8) : (pcs l).length ≤ l.length + 1 := by
  induction l with
  | nil => simp [pcs]
  | cons c l ih =>
    rw [pcs]
    split
    · simp; exact ih
    · split
      · simp
      · rename_i h; rw [h] at ih; simp at ih ⊢; omega

set_option maxRecDepth 100000 in
theorem may_any (row first : ByteArray) (y : Nat) (hr : row.size ≤ 9223372036854775807) (hf : first.size ≤ 9223372036854775807) (hy : y ≤ 1000000000) (w : World) :
    Calls Tryd.prog 29 #[.string row, .string first, .int .i64 (y : Int)] w fun e w' => e = .returned (.bool (mayB row first y)) ∧ w' = w := by
  obtain ⟨R, hR⟩ : ∃ R, R = mayB row first y := ⟨_, rfl⟩
  rw [← hR]
  have HR := Lib.hid hR
  clear hR
  obtain ⟨n, hn⟩ : ∃ n, n = row.size := ⟨_, rfl⟩
  have hnI : ((row.size : Nat) : Int) = (n : Int) := by omega
  have HN := Lib.hid hn
  obtain ⟨m, hm⟩ : ∃ m, m = first.size := ⟨_, rfl⟩
  have hmI : ((first.size : Nat) : Int) = (m : Int) := by omega
  have HM := Lib.hid hm
  have hno : ¬ (y < 16 ∧ n ≠ 0 ∧ n ≤ 16 ∧ n = m) → R = false := fun h => by
    rw [HR.out]
    cases e : mayB row first y with
    | false => rfl
    | true => obtain ⟨h1, h2, h3, h4, _⟩ := mayB_iff.1 e; exact absurd ⟨h1, by rw [hn]; exact h2, by rw [hn]; exact h3, by rw [hn, hm]; exact h4⟩ h
  have HNO := Lib.hid hno
  rw [← hn] at hr
  rw [← hm] at hf
  clear hno hn hm
  have hem : row.toList.isEmpty = decide (n = 0) := by
    rw [HN.out, Lib.toList_data, Lib.size_eq]
    cases row.data.toList <;> simp
  by_cases h1 : 16 ≤ y
  · have h1I : (16 : Int) ≤ (y : Int) := by omega
    have HE := Lib.hid (HNO.out (by omega))
    clear hem h1
    go_enter Tryd.func29, Tryd.ntmps29
    go_wp2_with fail
    go_ret
    exact ⟨by rw [HE.out]; rfl, rfl⟩
  have h1I : ¬ (16 : Int) ≤ (y : Int) := by omega
  by_cases h2 : n = 0
  · have HE := Lib.hid (HNO.out (by omega))
    have hem2 : row.toList.isEmpty = true := by rw [hem]; simp [h2]
    have hem3 : row.toList = [] := by simpa using hem2
    have hem4 : row.data.toList = [] := by rw [← Lib.toList_data]; exact hem3
    clear hem h1 h2
    go_enter Tryd.func29, Tryd.ntmps29
    go_wp2_with fail
    go_ret
    exact ⟨by rw [HE.out]; rfl, rfl⟩
  have hem2 : row.toList.isEmpty = false := by rw [hem]; simp [h2]
  by_cases h3 : 16 < n
  · have HE := Lib.hid (HNO.out (by omega))
    have h3I : (16 : Int) < (n : Int) := by omega
    clear hem h1 h2 h3
    go_enter Tryd.func29, Tryd.ntmps29
    go_wp2_with fail
    go_ret
    exact ⟨by rw [HE.out]; rfl, rfl⟩
  have h3I : ¬ (16 : Int) < (n : Int) := by omega
  by_cases h4 : n = m
  · have h4b : ((n : Int) != (m : Int)) = false := by simp; omega
    have h4c : (n != m) = false := by simp [h4]
    have HG := Lib.hid (show y < 16 ∧ n ≠ 0 ∧ n ≤ 16 ∧ n = m by omega)
    have hn16 : n ≤ 16 := by omega
    clear hem h1 h2 h3 h4
    go_enter Tryd.func29, Tryd.ntmps29
    go_wp2_with fail
    go_loopg [28] (n + 1) (fun g2 kk wr => ∃ k : Nat, g2 = n + 1 - k ∧ kk = .int .i64 k ∧ k ≤ n ∧ (∀ i, i < k → kdS row i ≠ 0) ∧ wr = w)
    case atStart => exact ⟨0, rfl, rfl, by omega, fun i hi => by omega, rfl⟩
    case round =>
      obtain ⟨k, hgk, rfl, hk, hz, rfl⟩ := hrel
      have HZ := Lib.hid hz
      clear hz
      by_cases hlt : k < n
      · have hltI : (k : Int) < (n : Int) := by omega
        have hwk : IntKind.i64.wrap ((k : Int) + 1) = (k : Int) + 1 := IntWalk.i64_in _ (by omega)
        have hks : k < row.size := by have := HN.out; omega
        have hbt := bt_at row k
        obtain ⟨K, hK⟩ : ∃ K, K = kindB (bt row k) := ⟨_, rfl⟩
        have hkd := fun w => kind_any (bt row k) w
        rw [← hK] at hkd
        have HK := Lib.hid (show K = kdS row k from hK)
        have HKD := Lib.hid hkd
        clear hK hkd
        by_cases h0 : K = 0
        · have h0b : ((K : Int) == 0) = true := by simp [h0]
          have HE := Lib.hid (show R = false by
            rw [HR.out]
            cases e : mayB row first y with
            | false => rfl
            | true => exact absurd (by rw [← HK.out, h0]) ((mayB_iff.1 e).2.2.2.2 k hks))
          clear h0 hlt hks
          go_wp2_with (go_at_call 39; refine (HKD.out _).mono ?_; rintro e wz ⟨rfl, rfl⟩)
          go_ret
          exact ⟨by rw [HE.out]; rfl, rfl⟩
        · have h0b : ((K : Int) == 0) = false := by simp; omega
          have HZ2 := Lib.hid (show ∀ i, i < k + 1 → kdS row i ≠ 0 by
            intro i hi
            rcases Nat.lt_or_ge i k with h | h
            · exact HZ.out i h
            · obtain rfl : i = k := by omega
              rw [← HK.out]; exact h0)
          clear h0 hlt hks
          go_wp2_with (go_at_call 39; refine (HKD.out _).mono ?_; rintro e wz ⟨rfl, hwz⟩; rw [hwz]; clear hwz)
          go_roundg (n + 1 - (k + 1))
          case measure => omega
          case rel => exact ⟨k + 1, rfl, by go_num, by omega, HZ2.out, rfl⟩
      · obtain rfl : k = n := by omega
        have hd0 : ¬ (k : Int) < (k : Int) := by omega
        have HE := Lib.hid (show R = true by
          rw [HR.out]
          have h1 := HG.out; have h2 := HN.out; have h3 := HM.out
          exact mayB_iff.2 ⟨h1.1, by omega, by omega, by omega, fun i hi => HZ.out i (by omega)⟩)
        clear hlt
        go_wp2_with fail
        go_ret
        exact ⟨by rw [HE.out]; rfl, rfl⟩
  · have HE := Lib.hid (HNO.out (by omega))
    have h4b : ((n : Int) != (m : Int)) = true := by simp; omega
    have h4c : (n != m) = true := by simp [h4]
    clear hem h1 h2 h3 h4
    go_enter Tryd.func29, Tryd.ntmps29
    go_wp2_with fail
    go_ret
    exact ⟨by rw [HE.out]; rfl, rfl⟩
end Go.Proofs.YtolkkinophklcaaDoor
