/- link.Sender: NewSender, Tell, Packet, Told. -/
import Derived.Test.YtnejjjoedmefkaaTakR
namespace Go.Proofs.Ytnejjjoedmefkaa
set_option linter.unusedVariables false
set_option linter.unusedSimpArgs false
open Go.RowKit

/-- A sender: p points to it; the slice V has what it tells. -/
structure SndS (p : Nat) (told : Nat) (tells : Bool) (data : List Nat) (V : Value) (w : World) : Prop where
  blk : w.heap[p]? = some (.cells #[.int .u64 (told : Int), .bool tells, V] 94 (0, 0))
  own : Own BK 5 w V data
  ne : ∀ g, V.ownBlock = some g → g ≠ p
  big : told < 18446744073709551616
  ok : tells = true → told < 18446744073709551614 ∧ data.length ≤ 200
  byt : ∀ x ∈ data, x < 256
theorem SndS.far {S : Nat → Prop} {p told : Nat} {tells : Bool} {data : List Nat} {V : Value} {w w' : World} (h : SndS p told tells data V w) (hk : Kp S w w') (hp : ¬ S p) (hv : ∀ g, V.ownBlock = some g → ¬ S g) : SndS p told tells data V w' :=
  ⟨hk.blk h.blk hp, h.own.kp hk hv, h.ne, h.big, h.ok, h.byt⟩
theorem SndS.no {p told : Nat} {tells : Bool} {data : List Nat} {V : Value} {w w' : World} (h : SndS p told tells data V w) (hk : Kp No w w') : SndS p told tells data V w' := h.far hk (no_no _) fun _ _ => no_no _
theorem SndS.cells {p told : Nat} {tells : Bool} {data : List Nat} {V : Value} {w : World} (h : SndS p told tells data V w) : w.cell? ⟨p, 0, none⟩ = some (.int .u64 (told : Int)) ∧ w.cell? ⟨p, 1, none⟩ = some (.bool tells) ∧ w.cell? ⟨p, 2, none⟩ = some V ∧ w.frozen? ⟨p, 0, none⟩ = false ∧ w.frozen? ⟨p, 1, none⟩ = false ∧ w.frozen? ⟨p, 2, none⟩ = false :=
  ⟨(blk_cell h.blk 0).trans rfl, (blk_cell h.blk 1).trans rfl, (blk_cell h.blk 2).trans rfl, blk_free h.blk 0, blk_free h.blk 1, blk_free h.blk 2⟩

theorem newSnd_any (w : World) (told : Nat) (h : told < 18446744073709551616) (x : Int) (hx : x = told) : Calls Try.prog 16 #[.int .u64 x] w fun e w' => ∃ p, e = .returned (.pointer (some ⟨p, 0, none⟩)) ∧ SndS p told false [] (.slice none 0 0) w' ∧ Kp No w w' ∧ w.heap.size ≤ p ∧ p < w'.heap.size := by
  subst hx
  go_enter Try.func16, Try.ntmps16
  go_wp2
  go_ret
  exact ⟨w.heap.size, rfl, ⟨blk_new w _, Own.nil _ _ _, by simp [Value.ownBlock], h, fun e => by simp at e, fun x hx => by simp at hx⟩, (Kp.refl _ _).alloc _, Nat.le_refl _, by simp⟩

def tellE (told : Nat) (tells : Bool) (d : List Nat) : Int := if tells then 3 else if 200 < d.length ∨ 18446744073709551614 ≤ told then 4 else 0
def TellR (p told : Nat) (tells : Bool) (data : List Nat) (V : Value) (d : List Nat) (w : World) (e : Ending) (w' : World) : Prop :=
  e = .returned (.int .i64 (tellE told tells d)) ∧ Kp (fun k => k = p) w w' ∧ ∃ V', SndS p told (tells || decide (tellE told tells d = 0)) (if tellE told tells d = 0 then d else data) V' w' ∧ (∀ g, V'.ownBlock = some g → V.ownBlock = some g ∨ w.heap.size ≤ g)

set_option maxRecDepth 100000 in
theorem tell_any {w : World} {p told : Nat} {tells : Bool} {data : List Nat} {V v : Value} {d : List Nat} (h : SndS p told tells data V w) (hv : Rd BK w v d) (hd : d.length ≤ 1000000) (hx : ∀ x ∈ d, x < 256) :
    Calls Try.prog 21 #[.pointer (some ⟨p, 0, none⟩), v] w (TellR p told tells data V d w) := by
  obtain ⟨A, cap, rfl⟩ := hv.shape
  obtain ⟨c0, c1, c2, f0, f1, f2⟩ := h.cells
  have H := Lib.hid h; have HV := Lib.hid hv; have HX := Lib.hid hx
  have same : tellE told tells d ≠ 0 → ∀ w', w' = w → TellR p told tells data V d w (.returned (.int .i64 (tellE told tells d))) w' := by
    rintro hne w' rfl
    refine ⟨rfl, Kp.refl _ _, V, ?_, fun g hg => .inl hg⟩
    rw [if_neg hne, decide_eq_false hne, Bool.or_false]; exact h
  have SM := Lib.hid same
  clear h hv hx same
  cases tells
  · by_cases h1 : 200 < d.length
    · have he : tellE told false d = 4 := by unfold tellE; rw [if_neg (by decide), if_pos (.inl h1)]
      have h1I : (200 : Int) < (d.length : Int) := by omega
      have HE := Lib.hid he
      clear he h1
      go_enter Try.func21, Try.ntmps21
      go_wp2
      go_ret
      have q := SM.out (by rw [HE.out]; decide) w rfl
      rw [HE.out] at q; exact q
    · have h1I : ¬ (200 : Int) < (d.length : Int) := by omega
      by_cases h2 : 18446744073709551614 ≤ told
      · have he : tellE told false d = 4 := by unfold tellE; rw [if_neg (by decide), if_pos (.inr h2)]
        have h2I : (18446744073709551614 : Int) ≤ (told : Int) := by omega
        have HE := Lib.hid he
        clear he h1 h2
        go_enter Try.func21, Try.ntmps21
        go_wp2
        go_ret
        have q := SM.out (by rw [HE.out]; decide) w rfl
        rw [HE.out] at q; exact q
      · have he : tellE told false d = 0 := by unfold tellE; rw [if_neg (by decide), if_neg (fun h => by rcases h with h | h; exact h1 h; exact h2 h)]
        have h2I : ¬ (18446744073709551614 : Int) ≤ (told : Int) := by omega
        have HE := Lib.hid he; have H1 := Lib.hid h1; have H2 := Lib.hid h2
        clear he h1 h2
        go_enter Try.func21, Try.ntmps21
        go_wp2_with (at_builtin; refine wpl_append elB rfl (.const (.slice none 0 0)) (.tmp 26) rfl rfl rfl (l := []) (m := d) ?c1 ?c2 ?c3 ?c4 ?c5)
        case c1 => exact Own.nil _ _ _
        case c2 => exact HV.out
        case c3 => have q : d.length ≤ maxLen := (by unfold maxLen; omega); simpa using q
        case c4 => have q : d.length ≤ 140737488355328 := (by omega); simpa using q
        case c5 =>
          intro v' w' k1 k2 k3
          have q : NewS BK 5 w w' v' d := (NewS.nil BK 5 w).app (Kp.refl _ _) k1 k2 k3 (Nat.le_refl _)
          obtain ⟨A3, c3, rfl⟩ := q.own.rd.shape
          have Q := Lib.hid q
          have s1 := H.out.no q.kp
          obtain ⟨d0, d1, d2, g0, g1, g2⟩ := s1.cells
          have S1 := Lib.hid s1
          clear k1 k2 k3 q s1
          go_wp2
          go_ret
          have hne : ∀ g, (Value.slice A3 d.length c3).ownBlock = some g → g ≠ p := fun g hg => by
            have := Q.out.ge g hg
            have := lt_of_block H.out.blk
            omega
          have hk := (Kp.one (w := w') (p := p) 1 (.bool true)).trans (Kp.one (p := p) 2 (.slice A3 d.length c3))
          have b1 := (blk_set (blk_set S1.out.blk 1 (.bool true)) 2 (.slice A3 d.length c3)).trans rfl
          refine ⟨by rw [HE.out]; rfl, (Q.out.kp.mono (S2 := fun k => k = p) fun _ _ e => e.elim).trans hk, .slice A3 d.length c3, ?_, fun g hg => .inr (Q.out.ge g hg)⟩
          rw [if_pos HE.out, decide_eq_true HE.out, Bool.or_true]
          exact ⟨b1, Q.out.own.kp hk hne, hne, H.out.big, fun _ => ⟨by have := H2.out; omega, by have := H1.out; omega⟩, HX.out⟩
  · have he : tellE told true d = 3 := by unfold tellE; rw [if_pos rfl]
    have HE := Lib.hid he
    clear he
    go_enter Try.func21, Try.ntmps21
    go_wp2
    go_ret
    have q := SM.out (by rw [HE.out]; decide) w rfl
    rw [HE.out] at q; exact q
end Go.Proofs.Ytnejjjoedmefkaa
