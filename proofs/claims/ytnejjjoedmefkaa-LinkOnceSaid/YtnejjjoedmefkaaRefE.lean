/- carfaxref01: Bytes, the walk. -/
import Derived.Test.YtnejjjoedmefkaaRefD
namespace Go.Proofs.Ytnejjjoedmefkaa
set_option linter.unusedVariables false
set_option linter.unusedSimpArgs false
open Go.RowKit

set_option maxRecDepth 100000 in
theorem rbytes_any {w : World} {v : Value} {l : List Bool} (h : Rd QK w v l) (hl : l.length ≤ 1000000) : Calls Try.prog 43 #[v] w fun e w' => ∃ v', e = .returned v' ∧ NewS BK 5 w w' v' (packB l) := by
  obtain ⟨A, cap, rfl⟩ := h.shape
  have H := Lib.hid h
  clear h
  go_enter Try.func43, Try.ntmps43
  go_wp2
  go_loopw [3, 4] (fun b i wr => ∃ k : Nat, i = .int .i64 k ∧ k ≤ l.length ∧ NewS BK 5 w wr b (packB (l.take k))) (fun _ i _ => l.length - (intOf i).toNat)
  case atStart => exact ⟨0, rfl, by omega, by rw [List.take_zero, packB_nil]; exact NewS.nil _ _ _⟩
  case round =>
    obtain ⟨k, rfl, hk, hv⟩ := hrel
    obtain ⟨A1, cap1, rfl⟩ := hv.own.rd.shape
    have HR := Lib.hid (H.out.kpNo hv.kp)
    have HV := Lib.hid hv
    clear hv
    by_cases hlt : k < l.length
    · obtain ⟨b, hb⟩ : ∃ b, l[k]? = some b := ⟨_, List.getElem?_eq_getElem hlt⟩
      rcases H.out with ⟨hv, he⟩ | ⟨g, o, cap', hv, _⟩
      · rw [he] at hlt; simp at hlt
      simp only [Value.slice.injEq] at hv
      obtain ⟨rfl, _, rfl⟩ := hv
      have hbc := HR.out.bitAt hb
      have hsn : l.take (k + 1) = l.take k ++ [b] := by rw [List.take_add_one, hb]; rfl
      have hkl : (l.take k).length = k := by rw [List.length_take]; omega
      have hpl := packB_len (l.take k)
      have hpf := packB_false (l.take k)
      obtain ⟨x, hx1, hx2, hx3⟩ := packB_trueA (l.take k)
      rw [hkl] at hpl hpf hx1 hx2 hx3
      generalize l.take k = t at *
      have HSN := Lib.hid hsn
      obtain ⟨d, hd⟩ : ∃ d, d = k / 8 := ⟨_, rfl⟩
      obtain ⟨m, hm⟩ : ∃ m, m = k % 8 := ⟨_, rfl⟩
      rw [← hd] at hx1 hx3
      rw [← hm] at hx2 hx3 hpf
      have hpb : (packB t).length ≤ 200000 := by omega
      have hltI : (k : Int) < (l.length : Int) := by omega
      have hm8 : m < 8 := by omega
      have hT1 : (k : Int) % 8 = (m : Int) := by omega
      have hD1 : (k : Int) / 8 = (d : Int) := by omega
      have hD3 : IntKind.i64.wrap (d : Int) = (d : Int) := IntWalk.i64_in _ (by omega)
      have hD4 : IntKind.i64.wrap (m : Int) = (m : Int) := IntWalk.i64_in _ (by omega)
      have hwk : IntKind.i64.wrap ((k : Int) + 1) = (k : Int) + 1 := IntWalk.i64_in _ (by omega)
      have HX1 := Lib.hid hx1; have HX3 := Lib.hid hx3; have HPF := Lib.hid hpf; have HX2 := Lib.hid hx2
      have hbb := hb
      clear hsn hkl hpl hpf hx1 hx2 hx3 hd hm hlt hb
      by_cases hm0 : m = 0
      · have hm0I : ((m : Int) == 0) = true := by simp [hm0]
        have hq : packB t ++ [0] = packB (t ++ [false]) := by rw [HPF.out, if_pos hm0]
        have HQ := Lib.hid hq
        have HBB := Lib.hid hbb
        clear hq hm0 hbb
        go_wp2_with (at_builtin; refine wpl_append elB rfl (.tmp 16) (.tmp 17) rfl rfl rfl (l := packB t) (m := [0]) ?c1 ?c2 ?c3 ?c4 ?c5)
        case c1 => exact (HV.out.alloc _).own
        case c2 => exact Rd.litAt BK 5 _ _ [0] rfl (by unfold maxLen; simp) _ _ rfl rfl
        case c3 => show (packB t).length + 1 ≤ maxLen; unfold maxLen; omega
        case c4 => show ((packB t).length + 1) * 1 ≤ _; omega
        case c5 =>
          intro v' w' k1 k2 k3
          have q0 := HV.out.app ((Kp.refl _ _).alloc _) k1 k2 k3 (by omega)
          rw [HQ.out] at q0
          obtain ⟨A5, q5, rfl⟩ := q0.own.rd.shape
          have Q := Lib.hid q0
          clear k1 k2 k3 q0
          rcases Q.out.own.b with ⟨e1, e2⟩ | ⟨g5, cap5, e1, e2, e3⟩
          · have := HX1.out; rw [e2] at this; simp at this
          simp only [Value.slice.injEq] at e1
          obtain ⟨rfl, _, rfl⟩ := e1
          have HR5 := Lib.hid (H.out.kpNo Q.out.kp)
          have hbc5 := HR5.out.bitAt HBB.out
          have hdl : (d : Int) < ((packB (t ++ [false])).length : Int) := by have := (List.getElem?_eq_some_iff.1 HX1.out).1; omega
          cases b with
          | false =>
            go_wp2
            go_roundw
            case rel => exact ⟨k + 1, by go_num, by omega, by rw [HSN.out]; exact Q.out⟩
            case measure => simp [intOf]; omega
          | true =>
            have hxc := Q.out.own.rd.byteAt HX1.out
            rw [Nat.zero_add] at hxc
            have hxf := Q.out.own.free d
            go_wp2
            go_loopw [5, 6] (fun a i wr' => ∃ j : Nat, i = .int .i64 j ∧ j ≤ m ∧ a = .int .u8 ((128 / 2 ^ j : Nat) : Int) ∧ wr' = w') (fun _ i _ => m - (intOf i).toNat)
            case atStart => exact ⟨0, rfl, by omega, rfl, rfl⟩
            case round =>
              obtain ⟨j, rfl, hj, rfl, rfl⟩ := hrel
              by_cases hjm : j < m
              · have hjI : (j : Int) < (m : Int) := by omega
                have hwj : IntKind.i64.wrap ((j : Int) + 1) = (j : Int) + 1 := IntWalk.i64_in _ (by omega)
                obtain ⟨z, hz⟩ : ∃ z, z = 128 / 2 ^ j := ⟨_, rfl⟩
                obtain ⟨z2, hz2⟩ : ∃ z2, z2 = 128 / 2 ^ (j + 1) := ⟨_, rfl⟩
                have hzz : z2 = z / 2 := by rw [hz, hz2, Nat.pow_succ, Nat.div_div_eq_div_mul]
                have hz128 : z ≤ 128 := by rw [hz]; exact Nat.div_le_self _ _
                rw [← hz]
                have ez1 : (z : Int) / 2 = (z2 : Int) := by omega
                have ez2 : IntKind.u8.wrap (z2 : Int) = (z2 : Int) := IntWalk.u8_in _ (by omega)
                have HZ2 := Lib.hid hz2
                clear hz hz2 hzz hz128 hjm
                go_wp2
                go_roundw
                case rel => exact ⟨j + 1, by go_num, by omega, by rw [HZ2.out], by first | rfl | trivial⟩
                case measure => simp [intOf]; omega
              · obtain rfl : j = m := by omega
                have hjI : ¬ (j : Int) < (j : Int) := by omega
                obtain ⟨P, hP⟩ : ∃ P, P = 128 / 2 ^ j := ⟨_, rfl⟩
                obtain ⟨y, hy⟩ : ∃ y, y = x + P := ⟨_, rfl⟩
                have hy256 : y < 256 := by have := HX2.out; rw [← hP] at this; omega
                have ey1 : (x : Int) + (P : Int) = (y : Int) := by omega
                have ey2 : IntKind.u8.wrap (y : Int) = (y : Int) := IntWalk.u8_in _ (by omega)
                have hset := HX3.out
                rw [← hP, ← hy] at hset
                have HSET := Lib.hid hset
                rw [← hP]
                clear hP hy hset hjm hjI
                go_wp2
                go_roundw
                case rel =>
                  have ho := Q.out.own.setByte d y (by omega)
                  rw [← HSET.out] at ho
                  have hl : (packB (t ++ [false])).length = (packB (t ++ [true])).length := by rw [HSET.out, List.length_set]
                  rw [hl] at ho
                  refine ⟨k + 1, by go_num, by omega, ?_⟩
                  rw [HSN.out, hl]
                  exact ⟨ho, fun g hg => Q.out.ge g hg, Q.out.kp.trans' ((Kp.refl (fun k => k = g5) _).setCell (p := ⟨g5, d, none⟩) (fun _ => rfl) _) (fun k hk e => by have := Q.out.ge g5 rfl; have e : k = g5 := e; omega)⟩
                case measure => simp [intOf]; omega
      · have hm0I : ((m : Int) == 0) = false := by simp [hm0]
        have hq : packB t = packB (t ++ [false]) := by rw [HPF.out, if_neg hm0]
        have HBB := Lib.hid hbb
        have q0 := HV.out
        rw [hq] at q0 ⊢
        have Q := Lib.hid q0
        clear hq hm0 hbb q0 hpb HV
        rcases Q.out.own.b with ⟨e1, e2⟩ | ⟨g5, cap5, e1, e2, e3⟩
        · have := HX1.out; rw [e2] at this; simp at this
        simp only [Value.slice.injEq] at e1
        obtain ⟨rfl, _, rfl⟩ := e1
        have HR5 := Lib.hid (H.out.kpNo Q.out.kp)
        have hbc5 := HR5.out.bitAt HBB.out
        have hdl : (d : Int) < ((packB (t ++ [false])).length : Int) := by have := (List.getElem?_eq_some_iff.1 HX1.out).1; omega
        cases b with
        | false =>
          go_wp2
          go_roundw
          case rel => exact ⟨k + 1, by go_num, by omega, by rw [HSN.out]; exact Q.out⟩
          case measure => simp [intOf]; omega
        | true =>
          have hxc := Q.out.own.rd.byteAt HX1.out
          rw [Nat.zero_add] at hxc
          have hxf := Q.out.own.free d
          go_wp2
          go_loopw [5, 6] (fun a i wr' => ∃ j : Nat, i = .int .i64 j ∧ j ≤ m ∧ a = .int .u8 ((128 / 2 ^ j : Nat) : Int) ∧ wr' = wr) (fun _ i _ => m - (intOf i).toNat)
          case atStart => exact ⟨0, rfl, by omega, rfl, rfl⟩
          case round =>
            obtain ⟨j, rfl, hj, rfl, rfl⟩ := hrel
            by_cases hjm : j < m
            · have hjI : (j : Int) < (m : Int) := by omega
              have hwj : IntKind.i64.wrap ((j : Int) + 1) = (j : Int) + 1 := IntWalk.i64_in _ (by omega)
              obtain ⟨z, hz⟩ : ∃ z, z = 128 / 2 ^ j := ⟨_, rfl⟩
              obtain ⟨z2, hz2⟩ : ∃ z2, z2 = 128 / 2 ^ (j + 1) := ⟨_, rfl⟩
              have hzz : z2 = z / 2 := by rw [hz, hz2, Nat.pow_succ, Nat.div_div_eq_div_mul]
              have hz128 : z ≤ 128 := by rw [hz]; exact Nat.div_le_self _ _
              rw [← hz]
              have ez1 : (z : Int) / 2 = (z2 : Int) := by omega
              have ez2 : IntKind.u8.wrap (z2 : Int) = (z2 : Int) := IntWalk.u8_in _ (by omega)
              have HZ2 := Lib.hid hz2
              clear hz hz2 hzz hz128 hjm
              go_wp2
              go_roundw
              case rel => exact ⟨j + 1, by go_num, by omega, by rw [HZ2.out], by first | rfl | trivial⟩
              case measure => simp [intOf]; omega
            · obtain rfl : j = m := by omega
              have hjI : ¬ (j : Int) < (j : Int) := by omega
              obtain ⟨P, hP⟩ : ∃ P, P = 128 / 2 ^ j := ⟨_, rfl⟩
              obtain ⟨y, hy⟩ : ∃ y, y = x + P := ⟨_, rfl⟩
              have hy256 : y < 256 := by have := HX2.out; rw [← hP] at this; omega
              have ey1 : (x : Int) + (P : Int) = (y : Int) := by omega
              have ey2 : IntKind.u8.wrap (y : Int) = (y : Int) := IntWalk.u8_in _ (by omega)
              have hset := HX3.out
              rw [← hP, ← hy] at hset
              have HSET := Lib.hid hset
              rw [← hP]
              clear hP hy hset hjm hjI
              go_wp2
              go_roundw
              case rel =>
                have ho := Q.out.own.setByte d y (by omega)
                rw [← HSET.out] at ho
                have hl : (packB (t ++ [false])).length = (packB (t ++ [true])).length := by rw [HSET.out, List.length_set]
                rw [hl] at ho
                refine ⟨k + 1, by go_num, by omega, ?_⟩
                rw [HSN.out, hl]
                exact ⟨ho, fun g hg => Q.out.ge g hg, Q.out.kp.trans' ((Kp.refl (fun k => k = g5) _).setCell (p := ⟨g5, d, none⟩) (fun _ => rfl) _) (fun k hk e => by have := Q.out.ge g5 rfl; have e : k = g5 := e; omega)⟩
              case measure => simp [intOf]; omega
    · obtain rfl : k = l.length := by omega
      have hd0 : ¬ (l.length : Int) < (l.length : Int) := by omega
      go_wp2
      go_ret
      exact ⟨_, rfl, by have := HV.out; rwa [List.take_length] at this⟩
end Go.Proofs.Ytnejjjoedmefkaa
