/- Same; the examples (shown). -/
import Derived.Test.YtihnbgokkhbjnaaWinP
namespace Go.Proofs.Ytihnbgokkhbjnaa
set_option linter.unusedVariables false
set_option linter.unusedSimpArgs false
open Go.RowKit

theorem neqW (x y : Int × Int) (b : Bool) (hb : b = !decide (x = y)) (w : World) : (binOp .neq 23 (.agg #[.int .i64 x.1, .int .i64 x.2]) (.agg #[.int .i64 y.1, .int .i64 y.2])).run Try.prog w = .ok (.bool b) w := by
  subst hb
  have h : decide (x = y) = (decide (x.1 = y.1) && decide (x.2 = y.2)) := by
    rw [← Bool.decide_and]; exact decide_eq_decide.2 Prod.ext_iff
  rw [h]
  by_cases h1 : x.1 = y.1 <;> by_cases h2 : x.2 = y.2 <;> simp [binOp, Op.equal, Op.maxDepth, go_sem, h1, h2]

theorem same_any {a b : Value} {l m : List (Int × Int)} {w : World} (ha : Rd WK w a l) (hb : Rd WK w b m) (hl : l.length ≤ 1000000) (hm : m.length ≤ 1000000) (r : Bool) (hr : r = decide (l = m)) :
    Calls Try.prog 18 #[a, b] w fun e w' => e = .returned (.bool r) ∧ Kp No w w' := by
  obtain ⟨A, ca, rfl⟩ := ha.shape
  obtain ⟨B, cb, rfl⟩ := hb.shape
  have HR := Lib.hid hr
  by_cases hlen : ¬ l.length = m.length
  · have hd : r = false := by rw [hr]; simp; intro e; exact hlen (by rw [e])
    subst hd
    have hne : ((l.length : Int) != (m.length : Int)) = true := by rw [bne_iff_ne]; omega
    clear hr hlen ha hb
    go_enter Try.func18, Try.ntmps18
    go_wp2
    go_ret
    exact ⟨rfl, Kp.refl _ _⟩
  · have hlen := Decidable.not_not.1 hlen
    have hne : ((l.length : Int) != (m.length : Int)) = false := by simp [hlen]
    have HL := Lib.hid hlen
    have HA := Lib.hid ha; have HB := Lib.hid hb
    clear hr hlen ha hb
    go_enter Try.func18, Try.ntmps18
    go_wp2
    go_loopw [5] (fun i wr => ∃ k : Nat, i = .int .i64 k ∧ k ≤ l.length ∧ (∀ j : Nat, j < k → l[j]? = m[j]?) ∧ Kp No w wr) (fun i _ => l.length - (intOf i).toNat)
    case atStart => exact ⟨0, rfl, by omega, by intros; omega, Kp.refl _ _⟩
    case round =>
      obtain ⟨k, rfl, hk, heq, hK⟩ := hrel
      by_cases hlt : k < l.length
      · obtain ⟨x, hx⟩ : ∃ x, l[k]? = some x := ⟨_, List.getElem?_eq_getElem hlt⟩
        have hkm : k < m.length := by have := HL.out; omega
        obtain ⟨y, hy⟩ : ∃ y, m[k]? = some y := ⟨_, List.getElem?_eq_getElem hkm⟩
        have RA := HA.out.kpNo hK
        have RB := HB.out.kpNo hK
        rcases RA with ⟨hv, he⟩ | ⟨g, o, c1, hv, _⟩
        · rw [he] at hlt; simp at hlt
        rcases RB with ⟨hv2, he⟩ | ⟨g2, o2, c2, hv2, _⟩
        · rw [he] at hkm; simp at hkm
        simp only [Value.slice.injEq] at hv hv2
        obtain ⟨rfl, _, rfl⟩ := hv
        obtain ⟨rfl, _, rfl⟩ := hv2
        obtain ⟨hx1, hx2⟩ := (HA.out.kpNo hK).winAt hx
        obtain ⟨hy1, hy2⟩ := (HB.out.kpNo hK).winAt hy
        have hltI : (k : Int) < (l.length : Int) := by omega
        have hltJ : (k : Int) < (m.length : Int) := by omega
        have HE := Lib.hid heq; have HK := Lib.hid hK; have HX := Lib.hid hx; have HY := Lib.hid hy
        clear heq hK hx hy
        by_cases hxy : x = y
        · subst hxy
          have hq := neqW x x false (by simp)
          go_wp2
          go_quiet (fail)
          go_wp2
          go_roundw
          case rel =>
            refine ⟨k + 1, by go_num, hlt, ?_, HK.out.drewN _⟩
            intro j hj
            by_cases hjk : j = k
            · subst hjk; rw [HX.out, HY.out]
            · exact HE.out j (by omega)
          case measure => simp [intOf]; omega
        · have hq := neqW x y true (by simp [hxy])
          have hd : r = false := by
            rw [HR.out]; simp
            rintro rfl
            have := HX.out.symm.trans HY.out
            simp at this
            exact hxy this
          subst hd
          clear hxy
          go_wp2
          go_quiet (fail)
          go_wp2
          go_ret
          exact ⟨rfl, HK.out.drewN _⟩
      · obtain rfl : k = l.length := by omega
        have hd : r = true := by
          rw [HR.out]; simp
          apply List.ext_getElem?
          intro j
          by_cases hj : j < l.length
          · exact heq j hj
          · rw [List.getElem?_eq_none (by omega), List.getElem?_eq_none (by have := HL.out; omega)]
        subst hd
        have HK := Lib.hid hK
        clear heq hK
        go_wp2
        go_ret
        exact ⟨rfl, HK.out⟩
end Go.Proofs.Ytihnbgokkhbjnaa
