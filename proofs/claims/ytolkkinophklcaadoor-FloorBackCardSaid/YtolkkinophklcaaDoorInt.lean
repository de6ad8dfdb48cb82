/- Slices of ints; carfaxref03.SameInts. -/
import Derived.Test.YtolkkinophklcaaDoorNew
namespace Go.Proofs.YtolkkinophklcaaDoor
set_option linter.unusedVariables false
set_option linter.unusedSimpArgs false
open Go.RowKit

/-- An int's cell. -/
def IK : Kd Int := { sz := 1, enc := fun x => [.int .i64 x], len := fun _ => rfl, one := by intro a v hv; simp at hv; subst hv; rfl, pos := by decide }
theorem elI : ElT Tryd.prog 29 3 IK 8 := ElT.of (z := .int .i64 0) (by kernel_rfl) (by kernel_rfl) rfl
theorem Rd.intAt {w : World} {l : List Int} {g o n cap : Nat} (h : Rd IK w (.slice (some ⟨g, o, none⟩) n cap) l) {i : Nat} {x : Int} (hx : l[i]? = some x) : w.cell? ⟨g, o + i, none⟩ = some (.int .i64 x) := by
  have := h.at rfl hx (j := 0) rfl
  simpa [IK] using this
theorem Rd.lenI {α : Type} {K : Kd α} {w : World} {v : Value} {l : List α} (h : Rd K w v l) : l.length ≤ maxLen := by
  rcases h with ⟨_, rfl⟩ | ⟨_, _, _, _, h1, h2, _⟩
  · simp
  · omega

set_option maxRecDepth 100000 in
theorem sameInts_any {w : World} {v v' : Value} {a b : List Int} (hv : Rd IK w v a) (hv' : Rd IK w v' b) (d : Bool) (hd : d = decide (a = b)) :
    Calls Tryd.prog 20 #[v, v'] w fun e w' => e = .returned (.bool d) ∧ Kp No w w' := by
  have hla := hv.lenI
  obtain ⟨A, ca, rfl⟩ := hv.shape
  obtain ⟨B, cb, rfl⟩ := hv'.shape
  have H := Lib.hid hv; have H' := Lib.hid hv'; have HD := Lib.hid hd
  unfold maxLen at hla
  clear hv hv' hd
  by_cases hl : a.length = b.length
  · have hlI : (a.length : Int) = (b.length : Int) := by omega
    have hlb : ((a.length : Int) != (b.length : Int)) = false := by simp [hl]
    have HLL := Lib.hid hl
    have hlN : (a.length != b.length) = false := by simp [hl]
    clear hl hlI
    go_enter Tryd.func20, Tryd.ntmps20
    go_wp2
    go_loopw [5] (fun i wr => ∃ k : Nat, i = .int .i64 k ∧ k ≤ a.length ∧ a.take k = b.take k ∧ Kp No w wr) (fun i _ => a.length - (intOf i).toNat)
    case atStart => exact ⟨0, rfl, by omega, rfl, Kp.refl _ _⟩
    case round =>
      obtain ⟨k, rfl, hk, ht, hkp⟩ := hrel
      have KP := Lib.hid hkp; have HT := Lib.hid ht
      clear hkp ht
      by_cases hlt : k < a.length
      · have hltI : (k : Int) < (a.length : Int) := by omega
        have hltB : (k : Int) < (b.length : Int) := by have := HLL.out; omega
        have h0 : (0 : Int) ≤ (k : Int) := by omega
        have hwk : IntKind.i64.wrap ((k : Int) + 1) = (k : Int) + 1 := IntWalk.i64_in _ (by omega)
        obtain ⟨x, hx⟩ : ∃ x, a[k]? = some x := ⟨_, List.getElem?_eq_getElem hlt⟩
        obtain ⟨y, hy⟩ : ∃ y, b[k]? = some y := ⟨_, List.getElem?_eq_getElem (by have := HLL.out; omega)⟩
        rcases H.out with ⟨_, he⟩ | ⟨g, o, cap', hv, _⟩
        · rw [he] at hlt; simp at hlt
        simp only [Value.slice.injEq] at hv
        obtain ⟨rfl, _, rfl⟩ := hv
        rcases H'.out with ⟨_, he⟩ | ⟨g', o', cap'', hv, _⟩
        · rw [he] at hy; simp at hy
        simp only [Value.slice.injEq] at hv
        obtain ⟨rfl, _, rfl⟩ := hv
        have hc := (H.out.kpNo KP.out).intAt hx
        have hc' := (H'.out.kpNo KP.out).intAt hy
        have HX := Lib.hid hx; have HY := Lib.hid hy
        clear hx hy hlt
        by_cases hxy : x = y
        · subst hxy
          go_wp2
          go_quiet (fail)
          go_wp2
          go_roundw
          case rel => exact ⟨k + 1, by go_num, by omega, by rw [List.take_add_one, List.take_add_one, HT.out, HX.out, HY.out], KP.out.drewN _⟩
          case measure => simp [intOf]; omega
        · have hxb : (x != y) = true := by simpa using hxy
          have hne : d = false := by
            rw [HD.out, decide_eq_false_iff_not]
            intro e
            have h1 := HX.out
            rw [e, HY.out] at h1
            simp only [Option.some.injEq] at h1
            exact hxy h1.symm
          have HNE := Lib.hid hne
          clear hxy hne
          go_wp2
          go_quiet (fail)
          go_wp2
          go_ret
          exact ⟨by rw [HNE.out]; rfl, KP.out.drewN _⟩
      · obtain rfl : k = a.length := by omega
        have hd0 : ¬ (a.length : Int) < (a.length : Int) := by omega
        have hE : d = true := by
          rw [HD.out, decide_eq_true_eq]
          have h1 := HT.out
          rwa [List.take_length, HLL.out, List.take_length] at h1
        have HE := Lib.hid hE
        clear hlt hE
        go_wp2
        go_ret
        exact ⟨by rw [HE.out]; rfl, KP.out⟩
  · have hlb : ((a.length : Int) != (b.length : Int)) = true := by simp; omega
    have hlN : (a.length != b.length) = true := by simp [hl]
    have hE : d = false := by
      rw [HD.out, decide_eq_false_iff_not]
      intro e; exact hl (by rw [e])
    have HE := Lib.hid hE
    clear hE hl
    go_enter Tryd.func20, Tryd.ntmps20
    go_wp2
    go_ret
    exact ⟨by rw [HE.out]; rfl, Kp.refl _ _⟩
end Go.Proofs.YtolkkinophklcaaDoor
