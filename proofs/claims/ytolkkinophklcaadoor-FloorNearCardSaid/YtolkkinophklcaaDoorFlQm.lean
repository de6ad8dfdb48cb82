/- carfaxref03.Dock. -/
import Derived.Test.YtolkkinophklcaaDoorFlQn
namespace Go.Proofs.YtolkkinophklcaaDoor
set_option linter.unusedVariables false
set_option linter.unusedSimpArgs false
open Go.RowKit

theorem dockAt_first {s : ByteArray} {r k : Nat} (hk : k < s.size ∧ kdS s k = 3 ∧ bt s k = 48 + r) (h : ∀ i, i < k → ¬ (kdS s i = 3 ∧ bt s i = 48 + r)) : dockAt s r = some k := by
  unfold dockAt
  rw [List.find?_range_eq_some]
  refine ⟨by simp [hk.2.1, hk.2.2], by simpa using hk.1, fun j hj => ?_⟩
  have := h j hj
  simp; omega
theorem dockAt_never {s : ByteArray} {r : Nat} (h : ∀ i, i < s.size → ¬ (kdS s i = 3 ∧ bt s i = 48 + r)) : dockAt s r = none := by
  cases e : dockAt s r with
  | none => rfl
  | some x => obtain ⟨h1, h2⟩ := dockAt_some e; exact absurd h2 (h x h1)
theorem dockP_none {f : Flr} {c : Int} (h : ∀ i, i < f.s.size → kdS f.s i = 3 → (bt f.s i : Int) - 48 ≠ c) : dockP f c = none := by
  unfold dockP
  split
  · rename_i hh
    exact dockAt_never fun i hi h2 => h i hi h2.1 (by omega)
  · rfl
theorem dockP_some {f : Flr} {c : Int} {k : Nat} (hb : rightB f = true) (hk : k < f.s.size ∧ kdS f.s k = 3 ∧ (bt f.s k : Int) - 48 = c) (h : ∀ i, i < k → kdS f.s i = 3 → (bt f.s i : Int) - 48 ≠ c) : dockP f c = some k := by
  have hd := kd_dock hk.2.1
  have h48 : 48 ≤ bt f.s k := hd.1
  unfold dockP
  rw [if_pos ⟨hb, by omega⟩]
  exact dockAt_first ⟨hk.1, hk.2.1, by omega⟩ fun i hi h2 => h i hi h2.1 (by omega)

set_option maxHeartbeats 1000000 in
set_option maxRecDepth 100000 in
theorem qdockOf_any (f : Flr) (hsz : f.s.size ≤ 9223372036854775807) (c : Int) (w : World) :
    Calls Tryd.prog 15 #[f.val, .int .i64 c] w fun e w' => e = .returned (ZVal (dockP f c)) ∧ Kp No w w' := by
  have HBX := Lib.hid (BxW.new f w)
  obtain ⟨Z, hZ⟩ : ∃ Z, Z = dockP f c := ⟨_, rfl⟩
  rw [← hZ]
  have HZ := Lib.hid hZ
  obtain ⟨b, hb⟩ : ∃ b, rightB f = b := ⟨_, rfl⟩
  have HRT := Lib.hid (qright_at f hsz b hb)
  have HB0 := Lib.hid hb
  have HS := Lib.hid (show b = true → f.s.size ≤ 256 from fun h => (rightB_iff.1 (hb.trans h)).s256)
  obtain ⟨X, Y, s⟩ := f
  simp only at hsz
  obtain ⟨n, hn⟩ : ∃ n, n = s.size := ⟨_, rfl⟩
  have hnI : ((s.size : Nat) : Int) = (n : Int) := by omega
  have HN := Lib.hid hn
  unfold Flr.val at HRT ⊢
  simp only at HRT ⊢
  clear hb hZ hn
  go_enter Tryd.func15, Tryd.ntmps15
  have B0 := Lib.hid HBX.out
  go_wp2_with fail
  go_loopg [6] (n + 1) (fun g2 kk wx => ∃ k : Nat, g2 = n + 1 - k ∧ kk = .int .i64 k ∧ k ≤ n ∧ (∀ i, i < k → kdS s i = 3 → (bt s i : Int) - 48 ≠ c) ∧ BxW (Flr.mk X Y s) w.heap.size w wx ∧ (0 < k → b = true))
  case atStart => exact ⟨0, rfl, rfl, by omega, fun i hi => by omega, B0.out, fun h => by omega⟩
  case round =>
    obtain ⟨k, hgk, rfl, hk, hd, bx, hb⟩ := hrel
    have BX := Lib.hid bx; have HD := Lib.hid hd; have HB := Lib.hid hb
    have hb0 : wr.cell? ⟨w.heap.size, 0, none⟩ = some (.int .i64 X) := bx.c0
    have hb1 : wr.cell? ⟨w.heap.size, 1, none⟩ = some (.int .i64 Y) := bx.c1
    have hb2 : wr.cell? ⟨w.heap.size, 2, none⟩ = some (.string s) := bx.c2
    clear bx hd hb
    by_cases hlt : k < n
    · have hltI : (k : Int) < (n : Int) := by omega
      cases b with
      | false =>
        have HE := Lib.hid (show Z = none by rw [HZ.out]; unfold dockP; rw [if_neg (by rw [HB0.out]; simp)])
        clear hlt
        go_wp2_with fail
        refine (HRT.out _).mono ?_
        rintro e w1 ⟨rfl, kp1⟩
        have KP := Lib.hid (BX.out.kp.no kp1)
        clear kp1 hb0 hb1 hb2
        go_wp2_with fail
        go_ret2
        exact ⟨by rw [HE.out]; rfl, KP.out⟩
      | true =>
        have hn256 : n ≤ 256 := by have h1 : s.size ≤ 256 := HS.out rfl; have := HN.out; omega
        have hwk : IntKind.i64.wrap ((k : Int) + 1) = (k : Int) + 1 := IntWalk.i64_in _ (by omega)
        have hks : k < s.size := by have := HN.out; omega
        have hbt := bt_at s k
        obtain ⟨B, hB⟩ : ∃ B, B = bt s k := ⟨_, rfl⟩
        rw [← hB] at hbt
        obtain ⟨t, ht⟩ : ∃ t, t = (kindB B == 3) := ⟨_, rfl⟩
        have QD := Lib.hid (fun w => qdock_any B t ht w)
        have hK : kdS s k = kindB B := by rw [hB]; rfl
        go_wp2_with fail
        refine (HRT.out _).mono ?_
        rintro e w1 ⟨rfl, kp1⟩
        have B1 := Lib.hid (BX.out.no kp1)
        clear hb0 hb1 hb2
        have hb2 : w1.cell? ⟨w.heap.size, 2, none⟩ = some (.string s) := B1.out.c2
        clear kp1
        cases t with
        | false =>
          have HD2 := Lib.hid (show ∀ i, i < k + 1 → kdS s i = 3 → (bt s i : Int) - 48 ≠ c by
            intro i hi h3
            rcases Nat.lt_or_ge i k with h | h
            · exact HD.out i h h3
            · obtain rfl : i = k := by omega
              rw [hK] at h3; simp [h3] at ht)
          clear ht hB hK hlt hks
          go_wp2_with (go_at_call 36; refine (QD.out _).mono ?_; rintro e wz ⟨rfl, rfl⟩)
          go_roundg (n + 1 - (k + 1))
          case measure => omega
          case rel => exact ⟨k + 1, rfl, by go_num, by omega, HD2.out, B1.out, by simp⟩
        | true =>
          have h3 : kindB B = 3 := by simpa using ht.symm
          have hd := kd_dock h3
          obtain ⟨r, hr⟩ : ∃ r, B = 48 + r := ⟨B - 48, by omega⟩
          have hsub : IntKind.u8.wrap ((B : Int) - 48) = (r : Int) := by rw [IntWalk.u8_in _ (by omega)]; omega
          have hcv : IntKind.i64.wrap (r : Int) = (r : Int) := IntWalk.i64_in _ (by omega)
          have hr8 : r < 8 := by omega
          by_cases he : (r : Int) = c
          · have heb : ((r : Int) == c) = true := by simp [he]
            have HE := Lib.hid (show Z = some k by
              rw [HZ.out]
              exact dockP_some HB0.out ⟨hks, by rw [← h3, ← hK], by show (bt s k : Int) - 48 = c; rw [← hB, hr]; omega⟩ HD.out)
            clear ht hB hK hlt hks hr h3 hd he
            go_wp2_with (go_at_call 36; refine (QD.out _).mono ?_; rintro e wz ⟨rfl, rfl⟩)
            go_ret2
            exact ⟨by rw [HE.out]; rfl, B1.out.kp⟩
          · have heb : ((r : Int) == c) = false := by simpa using he
            have HD2 := Lib.hid (show ∀ i, i < k + 1 → kdS s i = 3 → (bt s i : Int) - 48 ≠ c by
              intro i hi h3
              rcases Nat.lt_or_ge i k with h | h
              · exact HD.out i h h3
              · obtain rfl : i = k := by omega
                rw [← hB, hr]; omega)
            clear ht hB hK hlt hks hr h3 hd he
            go_wp2_with (go_at_call 36; refine (QD.out _).mono ?_; rintro e wz ⟨rfl, rfl⟩)
            go_roundg (n + 1 - (k + 1))
            case measure => omega
            case rel => exact ⟨k + 1, rfl, by go_num, by omega, HD2.out, B1.out, by simp⟩
    · obtain rfl : k = n := by omega
      have hd0 : ¬ (k : Int) < (k : Int) := by omega
      have HE := Lib.hid (show Z = none by
        rw [HZ.out]
        exact dockP_none fun i hi h3 => HD.out i (by have := HN.out; have hi : i < s.size := hi; omega) h3)
      clear hlt
      go_wp2_with fail
      go_ret2
      exact ⟨by rw [HE.out]; rfl, BX.out.kp⟩
end Go.Proofs.YtolkkinophklcaaDoor
