/- Acts of carfaxlaw14: arguments, few. -/
import Derived.Test.YtnejjjoedmefkaaSlH
import Derived.Test.YtnejjjoedmefkaaSl
namespace Go.Proofs.Ytnejjjoedmefkaa
set_option linter.unusedVariables false
set_option linter.unusedSimpArgs false
open Go.ChangeShapes Go.WideShapes Go.ChangeAt Go.RowKit Go.Joins

structure A14 where
  k : Nat
  s : SlH
def AK14 : Kd A14 := { sz := 2, enc := fun x => [.int .u8 (x.k : Int), x.s.val], len := fun _ => rfl, one := by intro a v hv; simp at hv; rcases hv with rfl | rfl <;> rfl, pos := by decide }
theorem elA14 : ElT Try.prog 36 49 AK14 32 := ElT.of (z := .agg #[.int .u8 0, .slice none 0 0]) (by kernel_rfl) (by kernel_rfl) rfl
def A14.ok (w : World) (x : A14) : Prop := x.s.ok w ∧ x.k < 256
theorem Rd.actAt {w : World} {l : List A14} {g o n cap : Nat} (h : Rd AK14 w (.slice (some ⟨g, o, none⟩) n cap) l) {i : Nat} {x : A14} (hx : l[i]? = some x) : w.cell? ⟨g, o + i * 2, none⟩ = some (.int .u8 (x.k : Int)) ∧ w.cell? ⟨g, o + i * 2 + 1, none⟩ = some (.slice x.s.A x.s.b.length x.s.c) := by
  have h0 := h.at rfl hx (j := 0) rfl
  have h1 := h.at rfl hx (j := 1) rfl
  exact ⟨h0, h1⟩

section
variable {H : Type} {enc : TypeId × Value → H} {w : World} {base : Nat} {spare : Nat → Bool} {held : Bool}
set_option maxRecDepth 100000 in
theorem act14_dec {n : Nat} {cs : List Value} {y : DataW H × List MemPlace} (h : DataW.trod enc Try.prog w base spare held n 49 cs = some y) : ∃ x : A14, cs = AK14.enc x ∧ x.ok w := by
  obtain ⟨ys, n', rfl, hy, hlen, hyl, hf⟩ := DataW.trod_struct Try.underlying49 h
  have hc : Try.prog.cellsOf 49 = 2 := by kernel_rfl
  have hu : Try.prog.cellsOf 5 = 1 := by kernel_rfl
  have hb : Try.prog.cellsOf 23 = 1 := by kernel_rfl
  rw [hc] at hlen
  match cs, hlen with
  | [c0, c1], _ =>
    match ys, hyl with
    | [y0, y1], _ =>
      have h0 := hf 0 _ rfl
      have h1 := hf 1 _ rfl
      simp [hu, hb] at h0 h1
      obtain ⟨k, e0, _, wk⟩ := DataW.trod_int Try.underlying5 h0
      obtain ⟨x, e1, ok⟩ := slh_dec h1
      have hk := bounds_u8 wk
      simp at e0
      have e1' : c1 = x.val := by simpa [SHK] using e1
      refine ⟨⟨k.toNat, x⟩, ?_, ok, by show k.toNat < 256; omega⟩
      rw [e0, e1']
      show [Value.int .u8 k, x.val] = [.int .u8 ((k.toNat : Nat) : Int), x.val]
      rw [Int.toNat_of_nonneg hk.1]
set_option maxRecDepth 100000 in
theorem open_acts14 {v : Value} {d : DataW H} {p : List MemPlace} {r : Reach} {b0 : Nat} (hv : Value.okWide Try.prog w r b0 36 v) (h : DataW.Trod enc Try.prog w base spare held 36 v d p) : ∃ l : List A14, Rd AK14 w v l ∧ ∀ x ∈ l, x.ok w := by
  obtain ⟨a0, len, cap, rfl⟩ := okWide_slice Try.underlying36 hv
  obtain ⟨fuel, hf⟩ := h
  obtain ⟨l, h1, h2, A, cap', hv', h3, h4⟩ := open_rows (K := AK14) (A14.ok w) Try.underlying36 (by kernel_rfl) (fun n cs' y hy => act14_dec hy) hf
  simp only [Value.slice.injEq] at hv'
  obtain ⟨rfl, rfl, rfl⟩ := hv'
  exact ⟨l, h1.rd h3 h4, h2⟩
end

/-- What few hands back. -/
def FewR (v : Value) (l : List A14) (w : World) (e : Ending) (w' : World) : Prop := ∃ v' m, e = .returned v' ∧ m ≤ l.length ∧ (∀ w0, Rd AK14 w0 v l → Rd AK14 w0 v' (l.take m)) ∧ m ≤ 100 ∧ (∀ x ∈ l.take m, x.s.b.length ≤ 300) ∧ w = w'
theorem Rd.upto_det {α : Type} {K : Kd α} {P : Program} {t e : TypeId} {bytes : Nat} (E : ElT P t e K bytes) {w0 : World} {v v2 : Value} {l : List α} (h : Rd K w0 v l) (p : Nat) (hp : p ≤ l.length) (x : Int) (hx : x = p)
    (hr : ∀ w', (Instr.slice t v none (some (.int .i64 x)) none).run P w' = .ok v2 w') : Rd K w0 v2 (l.take p) := by
  obtain ⟨v3, h1, h2, _⟩ := h.upto E p hp x hx
  have := (h1 w0).symm.trans (hr w0)
  simp only [Result.ok.injEq, and_true] at this
  rw [← this]; exact h2
theorem Rd.lenle {α : Type} {K : Kd α} {w : World} {v : Value} {l : List α} (h : Rd K w v l) : l.length ≤ maxLen := by
  rcases h with ⟨_, rfl⟩ | ⟨_, _, _, _, h1, h2, _⟩
  · simp
  · omega

set_option maxRecDepth 100000 in
theorem few_any {w : World} {v : Value} {l : List A14} (hv : Rd AK14 w v l) : Calls Try.prog 18 #[v] w (FewR v l w) := by
  have HL := Lib.hid hv.lenle
  obtain ⟨A, cap, rfl⟩ := hv.shape
  have H := Lib.hid hv
  clear hv
  go_enter Try.func18, Try.ntmps18
  go_wp2
  go_loop [6] (fun i => ∃ k : Nat, i = .int .i64 k ∧ k ≤ l.length ∧ k ≤ 100 ∧ ∀ x ∈ l.take k, x.s.b.length ≤ 300) (fun i => l.length - (intOf i).toNat)
  case atStart => exact ⟨0, rfl, by omega, by omega, fun x hx => by simp at hx⟩
  case round =>
    obtain ⟨k, rfl, hk, hk1, hx⟩ := hrel
    have HXS := Lib.hid hx
    clear hx
    by_cases hlt : k < l.length
    · obtain ⟨x, hx⟩ : ∃ x, l[k]? = some x := ⟨_, List.getElem?_eq_getElem hlt⟩
      have hltI : (k : Int) < (l.length : Int) := by omega
      have hml := HL.out
      have hwk : IntKind.i64.wrap ((k : Int) + 1) = (k : Int) + 1 := IntWalk.i64_in _ (by omega)
      obtain ⟨s, A2, c2, HS, hsl, hrun, HD, _⟩ := H.out.upto2 elA14 k (by omega) (k : Int) rfl
      have HRUN := Lib.hid hrun
      rcases H.out with ⟨_, he⟩ | ⟨g, o, cap', hv, _⟩
      · rw [he] at hlt; simp at hlt
      simp only [Value.slice.injEq] at hv
      obtain ⟨rfl, _, rfl⟩ := hv
      obtain ⟨hc0, hc1⟩ := H.out.actAt hx
      have HSN := Lib.hid (show l.take (k + 1) = l.take k ++ [x] by rw [List.take_add_one, hx]; rfl)
      clear hx hlt hml
      by_cases h100 : k < 100
      · have h1I : ¬ (100 : Int) ≤ (k : Int) := by omega
        by_cases h300 : 300 < x.s.b.length
        · have h3I : (300 : Int) < (x.s.b.length : Int) := by omega
          clear h300 hsl
          go_wp2
          go_ret
          exact ⟨_, k, rfl, hk, fun w0 h0 => h0.upto_det elA14 k hk (k : Int) rfl HRUN.out, hk1, HXS.out, rfl⟩
        · have h3I : ¬ (300 : Int) < (x.s.b.length : Int) := by omega
          have h3 : x.s.b.length ≤ 300 := by omega
          clear h300 hsl hrun
          go_wp2
          go_round
          case rel => exact ⟨k + 1, by go_num, by omega, by omega, fun y hy => by rw [HSN.out] at hy; rcases List.mem_append.1 hy with hy | hy; exact HXS.out y hy; rw [List.mem_singleton.1 hy]; exact h3⟩
          case measure => simp [intOf]; omega
      · have h1I : (100 : Int) ≤ (k : Int) := by omega
        clear h100 hsl
        go_wp2
        go_ret
        exact ⟨_, k, rfl, hk, fun w0 h0 => h0.upto_det elA14 k hk (k : Int) rfl HRUN.out, hk1, HXS.out, rfl⟩
    · obtain rfl : k = l.length := by omega
      have hd0 : ¬ (l.length : Int) < (l.length : Int) := by omega
      clear hlt
      go_wp2
      go_ret
      exact ⟨.slice A l.length cap, l.length, rfl, Nat.le_refl _, fun w0 h0 => by rw [List.take_length]; exact h0, hk1, HXS.out, rfl⟩
end Go.Proofs.Ytnejjjoedmefkaa
