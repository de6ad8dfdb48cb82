/- Arguments: slices of ints; Arguments of carfaxlaw07: cases, rows, steps; carfaxref07.Plan; carfaxlaw07: small; what all its laws need; SippMore: the walk (written by bin/gen_l07.py). No condition. -/
import Derived.Test.YtgdokpfepfmbmaaDoorM10
import Derived.Test.YtgdokpfepfmbmaaDoorM3
import Derived.Test.YtgdokpfepfmbmaaDoorM2
import Derived.Test.YtgdokpfepfmbmaaDoorM9
import Derived.Deep.RegionHeld3

namespace Go.Proofs.YtgdokpfepfmbmaaDoor
set_option linter.unusedVariables false
set_option linter.unusedSimpArgs false
open Go.ChangeShapes Go.WideShapes Go.ChangeAt Go.RowKit Go.Joins
section
variable {H : Type} {enc : TypeId × Value → H} {w : World} {base : Nat} {spare : Nat → Bool} {held : Bool}
theorem int_dec {n : Nat} {cs : List Value} {y : DataW H × List MemPlace} (h : DataW.trod enc Tryd.prog w base spare held n 3 cs = some y) : ∃ x : Int, cs = IK.enc x ∧ True := by
  obtain ⟨k, e0, _, wk⟩ := DataW.trod_int Tryd.underlying3 h
  exact ⟨k, by rw [e0]; rfl, trivial⟩
theorem RdA.rd' {α : Type} {K : Kd α} {w : World} {A : Option Addr} {cap : Nat} {l : List α} (h : RdA K w (.slice A l.length cap) l) (h3 : l.length ≤ cap) (h4 : cap ≤ maxLen) : Rd K w (.slice A l.length cap) l := by
  obtain ⟨A', cap', e, hi⟩ := h
  simp only [Value.slice.injEq] at e
  obtain ⟨rfl, _, rfl⟩ := e
  by_cases h0 : l = []
  · subst h0; exact .inl ⟨⟨A, cap, rfl⟩, rfl⟩
  · obtain ⟨x, hx⟩ : ∃ x, l[0]? = some x := ⟨_, List.getElem?_eq_getElem (by cases l with | nil => exact absurd rfl h0 | cons _ _ => simp)⟩
    obtain ⟨g, o, rfl, _⟩ := hi 0 x hx
    refine .inr ⟨g, o, cap, rfl, h3, h4, fun j u hu => ?_⟩
    have hjl : j < l.length * K.sz := by rw [← K.length_encs]; exact (List.getElem?_eq_some_iff.1 hu).1
    have hp := K.pos
    have hq : j / K.sz < l.length := Nat.div_lt_of_lt_mul (by rw [Nat.mul_comm]; exact hjl)
    obtain ⟨y, hy⟩ : ∃ y, l[j / K.sz]? = some y := ⟨_, List.getElem?_eq_getElem hq⟩
    obtain ⟨g', o', e2, hc⟩ := hi _ y hy
    simp only [Option.some.injEq, Addr.mk.injEq] at e2
    obtain ⟨rfl, rfl, _⟩ := e2
    have hm : j % K.sz < K.sz := Nat.mod_lt _ hp
    have he := K.encs_get l (j / K.sz) (j % K.sz) y hy hm
    have hj : j / K.sz * K.sz + j % K.sz = j := Nat.div_add_mod' j K.sz
    rw [hj, hu] at he
    have := hc _ u he.symm
    rw [Nat.add_assoc, hj] at this
    exact this
set_option maxRecDepth 100000 in
theorem open_ints {v : Value} {d : DataW H} {p : List MemPlace} {r : Reach} {b0 : Nat} (hv : Value.okWide Tryd.prog w r b0 39 v) (h : DataW.Trod enc Tryd.prog w base spare held 39 v d p) : ∃ l : List Int, Rd IK w v l := by
  obtain ⟨a0, len, cap, rfl⟩ := okWide_slice Tryd.underlying39 hv
  obtain ⟨fuel, hf⟩ := h
  obtain ⟨l, h1, h2, A, cap, e, h3, h4⟩ := open_rows (K := IK) (fun _ : Int => True) Tryd.underlying39 (by kernel_rfl) (fun n cs' y hy => int_dec hy) hf
  rw [e] at h1 ⊢
  exact ⟨l, h1.rd' h3 h4⟩
end
end Go.Proofs.YtgdokpfepfmbmaaDoor

namespace Go.Proofs.YtgdokpfepfmbmaaDoor
set_option linter.unusedVariables false
set_option linter.unusedSimpArgs false
open Go.ChangeShapes Go.WideShapes Go.ChangeAt Go.RowKit Go.Joins

section
variable {H : Type} {enc : TypeId × Value → H} {w : World} {base : Nat} {spare : Nat → Bool} {held : Bool}
set_option maxRecDepth 100000 in
theorem floor_dec {n : Nat} {cs : List Value} {y : DataW H × List MemPlace} (h : DataW.trod enc Tryd.prog w base spare held n 23 cs = some y) : ∃ f : Flr, cs = [.int .i64 f.W, .int .i64 f.H, .string f.s] ∧ f.s.size ≤ 9223372036854775807 := by
  obtain ⟨ys, n', rfl, hy, hlen, hyl, hf⟩ := DataW.trod_struct Tryd.underlying23 h
  have hc : Tryd.prog.cellsOf 23 = 3 := by kernel_rfl
  have hi : Tryd.prog.cellsOf 3 = 1 := by kernel_rfl
  have hs : Tryd.prog.cellsOf 9 = 1 := by kernel_rfl
  rw [hc] at hlen
  match cs, hlen with
  | [c0, c1, c2], _ =>
    match ys, hyl with
    | [y0, y1, y2], _ =>
      have h0 := hf 0 _ rfl
      have h1 := hf 1 _ rfl
      have h2 := hf 2 _ rfl
      simp [hi, hs] at h0 h1 h2
      obtain ⟨a, e0, _, _⟩ := DataW.trod_int Tryd.underlying3 h0
      obtain ⟨b, e1, _, _⟩ := DataW.trod_int Tryd.underlying3 h1
      obtain ⟨s, e2, _, hb⟩ := DataW.trod_string Tryd.underlying9 h2
      simp at e0 e1 e2
      exact ⟨⟨a, b, s⟩, by rw [e0, e1, e2], hb⟩
set_option maxRecDepth 100000 in
theorem win2_dec {n : Nat} {cs : List Value} {y : DataW H × List MemPlace} (h : DataW.trod enc Tryd.prog w base spare held n 43 cs = some y) : ∃ a b : Int, cs = [.int .i64 a, .int .i64 b] := by
  obtain ⟨ys, n', rfl, hy, hlen, hyl, hf⟩ := DataW.trod_struct Tryd.underlying43 h
  have hc : Tryd.prog.cellsOf 43 = 2 := by kernel_rfl
  have hi : Tryd.prog.cellsOf 3 = 1 := by kernel_rfl
  rw [hc] at hlen
  match cs, hlen with
  | [c0, c1], _ =>
    match ys, hyl with
    | [y0, y1], _ =>
      have h0 := hf 0 _ rfl
      have h1 := hf 1 _ rfl
      simp [hi] at h0 h1
      obtain ⟨a, e0, _, _⟩ := DataW.trod_int Tryd.underlying3 h0
      obtain ⟨b, e1, _, _⟩ := DataW.trod_int Tryd.underlying3 h1
      simp at e0 e1
      exact ⟨a, b, by rw [e0, e1]⟩
set_option maxRecDepth 100000 in
theorem row07_dec {n : Nat} {cs : List Value} {y : DataW H × List MemPlace} (h : DataW.trod enc Tryd.prog w base spare held n 45 cs = some y) : ∃ x : Rw, cs = RK.enc x ∧ True := by
  obtain ⟨ys, n', rfl, hy, hlen, hyl, hf⟩ := DataW.trod_struct Tryd.underlying45 h
  have hc : Tryd.prog.cellsOf 45 = 3 := by kernel_rfl
  have hi : Tryd.prog.cellsOf 3 = 1 := by kernel_rfl
  have hw : Tryd.prog.cellsOf 43 = 2 := by kernel_rfl
  rw [hc] at hlen
  match cs, hlen with
  | [c0, c1, c2], _ =>
    match ys, hyl with
    | [y0, y1], _ =>
      have h0 := hf 0 _ rfl
      have h1 := hf 1 _ rfl
      simp [hi, hw] at h0 h1
      obtain ⟨c, e0, _, _⟩ := DataW.trod_int Tryd.underlying3 h0
      obtain ⟨a, b, e1⟩ := win2_dec h1
      simp at e0 e1
      exact ⟨(c, (a, b)), by rw [e0, e1.1, e1.2]; rfl, trivial⟩
set_option maxRecDepth 100000 in
theorem step_dec {n : Nat} {cs : List Value} {y : DataW H × List MemPlace} (h : DataW.trod enc Tryd.prog w base spare held n 58 cs = some y) : ∃ x : Int × Int, cs = TK.enc x ∧ True := by
  obtain ⟨ys, n', rfl, hy, hlen, hyl, hf⟩ := DataW.trod_struct Tryd.underlying58 h
  have hc : Tryd.prog.cellsOf 58 = 2 := by kernel_rfl
  have hi : Tryd.prog.cellsOf 3 = 1 := by kernel_rfl
  rw [hc] at hlen
  match cs, hlen with
  | [c0, c1], _ =>
    match ys, hyl with
    | [y0, y1], _ =>
      have h0 := hf 0 _ rfl
      have h1 := hf 1 _ rfl
      simp [hi] at h0 h1
      obtain ⟨a, e0, _, _⟩ := DataW.trod_int Tryd.underlying3 h0
      obtain ⟨b, e1, _, _⟩ := DataW.trod_int Tryd.underlying3 h1
      simp at e0 e1
      exact ⟨(a, b), by rw [e0, e1]; rfl, trivial⟩
set_option maxRecDepth 100000 in
theorem rows07_dec {n : Nat} {v : Value} {y : DataW H × List MemPlace} (h : DataW.trod enc Tryd.prog w base spare held n 24 [v] = some y) : ∃ l : List Rw, Rd RK w v l := by
  obtain ⟨l, h1, h2, A, cap, e, h3, h4⟩ := open_rows (K := RK) (fun _ : Rw => True) Tryd.underlying24 (by kernel_rfl) (fun n cs' y hy => row07_dec hy) h
  rw [e] at h1 ⊢
  exact ⟨l, h1.rd' h3 h4⟩
set_option maxRecDepth 100000 in
theorem open_rows07 {v : Value} {d : DataW H} {p : List MemPlace} {r : Reach} {b0 : Nat} (hv : Value.okWide Tryd.prog w r b0 24 v) (h : DataW.Trod enc Tryd.prog w base spare held 24 v d p) : ∃ l : List Rw, Rd RK w v l := by
  obtain ⟨a0, len, cap, rfl⟩ := okWide_slice Tryd.underlying24 hv
  obtain ⟨fuel, hf⟩ := h
  exact rows07_dec hf
set_option maxRecDepth 100000 in
theorem open_steps {v : Value} {d : DataW H} {p : List MemPlace} {r : Reach} {b0 : Nat} (hv : Value.okWide Tryd.prog w r b0 49 v) (h : DataW.Trod enc Tryd.prog w base spare held 49 v d p) : ∃ l : List (Int × Int), Rd TK w v l := by
  obtain ⟨a0, len, cap, rfl⟩ := okWide_slice Tryd.underlying49 hv
  obtain ⟨fuel, hf⟩ := h
  obtain ⟨l, h1, h2, A, cap, e, h3, h4⟩ := open_rows (K := TK) (fun _ : Int × Int => True) Tryd.underlying49 (by kernel_rfl) (fun n cs' y hy => step_dec hy) hf
  rw [e] at h1 ⊢
  exact ⟨l, h1.rd' h3 h4⟩
end
/-- A case: a floor, where, where to, when, how far ahead; its rows lie in memory. -/
structure Ca where
  f : Flr
  lv : Value
  L : List Rw
  fr : Int
  tg : Int
  s0 : Int
  ah : Int
def Ca.val (x : Ca) : Value := .agg #[.int .i64 x.f.W, .int .i64 x.f.H, .string x.f.s, x.lv, .int .i64 x.fr, .int .i64 x.tg, .int .i64 x.s0, .int .i64 x.ah]
def Ca.obj (x : Ca) : Obj := .cells #[.int .i64 x.f.W, .int .i64 x.f.H, .string x.f.s, x.lv, .int .i64 x.fr, .int .i64 x.tg, .int .i64 x.s0, .int .i64 x.ah] 26
section
variable {H : Type} {enc : TypeId × Value → H} {w : World} {base : Nat} {spare : Nat → Bool} {held : Bool}
set_option maxRecDepth 100000 in
theorem open_case {v : Value} {d : DataW H} {p : List MemPlace} {r : Reach} {b0 : Nat} (hv : Value.okWide Tryd.prog w r b0 26 v) (h : DataW.Trod enc Tryd.prog w base spare held 26 v d p) :
    ∃ x : Ca, v = x.val ∧ x.f.s.size ≤ 9223372036854775807 ∧ Rd RK w x.lv x.L := by
  obtain ⟨cs, rfl, hsz⟩ := okWide_struct Tryd.underlying26 hv
  obtain ⟨fuel, hf0⟩ := h
  have hf1 : DataW.trod enc Tryd.prog w base spare held fuel 26 cs.toList = some (d, p) := hf0
  obtain ⟨ys, n', rfl, hy, hlen, hyl, hf⟩ := DataW.trod_struct Tryd.underlying26 hf1
  have hc : Tryd.prog.cellsOf 26 = 8 := by kernel_rfl
  have hi : Tryd.prog.cellsOf 3 = 1 := by kernel_rfl
  have hF : Tryd.prog.cellsOf 23 = 3 := by kernel_rfl
  have hR : Tryd.prog.cellsOf 24 = 1 := by kernel_rfl
  rw [hc] at hlen
  obtain ⟨l, hl⟩ : ∃ l, l = cs.toList := ⟨_, rfl⟩
  have hcs : cs = l.toArray := by rw [hl]
  rw [← hl] at hlen hf
  clear hf0 hf1 hl hy hsz hv
  subst hcs
  match l, hlen with
  | [c0, c1, c2, c3, c4, c5, c6, c7], _ =>
    match ys, hyl with
    | [y0, y1, y2, y3, y4, y5], _ =>
      have h0 := hf 0 _ rfl
      have h1 := hf 1 _ rfl
      have h2 := hf 2 _ rfl
      have h3 := hf 3 _ rfl
      have h4 := hf 4 _ rfl
      have h5 := hf 5 _ rfl
      simp [hi, hF, hR] at h0 h1 h2 h3 h4 h5
      obtain ⟨f, e0, hb⟩ := floor_dec h0
      obtain ⟨L, rL⟩ := rows07_dec h1
      obtain ⟨a, e2, _, _⟩ := DataW.trod_int Tryd.underlying3 h2
      obtain ⟨b, e3, _, _⟩ := DataW.trod_int Tryd.underlying3 h3
      obtain ⟨c, e4, _, _⟩ := DataW.trod_int Tryd.underlying3 h4
      obtain ⟨e, e5, _, _⟩ := DataW.trod_int Tryd.underlying3 h5
      simp at e0 e2 e3 e4 e5
      exact ⟨⟨f, c3, L, a, b, c, e⟩, by rw [e0.1, e0.2.1, e0.2.2, e2, e3, e4, e5]; rfl, hb, rL⟩
end
end Go.Proofs.YtgdokpfepfmbmaaDoor

namespace Go.Proofs.YtgdokpfepfmbmaaDoor
set_option linter.unusedVariables false
set_option linter.unusedSimpArgs false
open Go.RowKit

theorem wtB_iff {T : Int → List (Int × Int)} {fr : Nat} {s0 : Int} (hT : WFT T) (k : Nat) : wtB (T (fr : Int)) s0 k = true ↔ s0 + (k : Int) < to0 T fr s0 := by
  obtain ⟨h1, h2, h3, _⟩ := to0_spec (fr := fr) (s0 := s0) hT
  unfold wtB
  rw [List.all_eq_true]
  constructor
  · intro h
    rcases Int.lt_or_le (s0 + (k : Int)) (to0 T fr s0) with h4 | h4
    · exact h4
    · exfalso
      obtain ⟨j, hj⟩ : ∃ j : Nat, s0 + ((j + 1 : Nat) : Int) = to0 T fr s0 := ⟨(to0 T fr s0 - s0 - 1).toNat, by omega⟩
      have := h j (List.mem_range.2 (by omega))
      rw [hj, h3] at this; cases this
  · intro h i hi
    have := List.mem_range.1 hi
    exact h2 _ (by omega) (by omega)
theorem planR_none {f : Flr} {T : Int → List (Int × Int)} {fr tg A : Nat} {s0 : Int} (hok : spOk f fr s0 = true) (hA : A ≤ 1024) (hop : opQ f tg = true) (hne : tg ≠ fr) (hb : ∀ j, j < A + 1 → ¬ Rch T (stepsP f fr []) fr s0 j tg) : planR f T (fr : Int) s0 (tg : Int) (A : Int) = ([], 2) := by
  have e : sn T (stepsP f fr []) fr s0 A tg = -1 :=
    (sn_is T (stepsP f fr []) fr s0 A tg).uniq (.inl ⟨rfl, fun k hk => hb k (by omega)⟩)
  unfold planR
  rw [if_pos ⟨hok, by simp; omega, hop⟩, if_neg (by omega)]
  simp only [Int.toNat_natCast, e]
  rfl
theorem flp_floor {f : Flr} {T : Int → List (Int × Int)} {fr : Nat} {s0 : Int} (hr : RightP f) (hk : kdS f.s fr ≠ 1) (hlt : ∀ m c, Rch T (stepsP f fr []) fr s0 m c → c < f.s.size) : Flp T (stepsP f fr []) (fun c => nearP f c) fr s0 (okF f fr) := by
  intro k u a hu
  have hul := hlt k u hu
  have hok : okF f fr u = true ↔ (kdS f.s u = 2 ∨ u = fr) := by unfold okF; simp
  constructor
  · intro ha
    have h1 := steps_near ha
    have h2 := steps_of ha
    have h3 : kdS f.s u ≠ 1 := by
      rcases h2 with e | e
      · rw [e]; exact hk
      · rw [e]; decide
    exact ⟨near_flip hr hul h3 h1.1, hok.2 h2.symm⟩
  · rintro ⟨h1, h2⟩
    have h1 : u ∈ nearP f a := h1
    have ha : a < f.s.size ∧ kdS f.s a ≠ 1 := by
      unfold nearP isB at h1
      split at h1
      · rename_i hx
        simp only [Bool.and_eq_true, decide_eq_true_eq, beq_iff_eq] at hx
        have e : ((a : Int)).toNat = a := by omega
        rw [e] at hx
        rcases hx with hx | hx <;> exact ⟨by omega, by omega⟩
      · simp at h1
    have h3 := near_flip hr ha.1 ha.2 h1
    show a ∈ stepsP f fr [] u
    unfold stepsP
    rw [if_neg]
    · exact List.mem_filter.2 ⟨h3, by simp⟩
    · rintro ⟨e1, e2⟩
      rcases hok.1 h2 with e | e
      · exact e2 e
      · exact e1 e
set_option maxHeartbeats 2000000 in
set_option maxRecDepth 100000 in
theorem r7Plan_no {f : Flr} {n : Nat} {M : MpC} {Vs : List SlC} {t : Value} {w : World} (h : MpW f n M Vs w) (hn : n ≤ 1000) (fr s0 tg ah : Int) (hno : ¬ (spOk f fr s0 = true ∧ 0 ≤ ah ∧ ah ≤ 1024)) :
    Calls Tryd.prog 21 #[M.val n, t, .int .i64 fr, .int .i64 s0, .int .i64 tg, .int .i64 ah] w (PlR ([], 1) w) := by
  obtain ⟨w1, hw1⟩ : ∃ w1, w1 = w.alloc (.cells #[.slice M.A1 n M.q1, .slice M.A2 n M.q2, .slice M.A3 n M.q3] 36) := ⟨_, rfl⟩
  have K1 := Lib.hid (show Kp No w w1 by rw [hw1]; exact (Kp.refl _ _).alloc _)
  have BX : w1.heap[w.heap.size]? = some (.cells #[.slice M.A1 n M.q1, .slice M.A2 n M.q2, .slice M.A3 n M.q3] 36 (0, 0)) := by rw [hw1]; exact blk_new w _
  have HW1 := Lib.hid hw1
  have hb0 : w1.cell? ⟨w.heap.size, 0, none⟩ = some (.slice M.A1 n M.q1) := blk_cell BX 0
  have hb1 : w1.cell? ⟨w.heap.size, 1, none⟩ = some (.slice M.A2 n M.q2) := blk_cell BX 1
  have hb2 : w1.cell? ⟨w.heap.size, 2, none⟩ = some (.slice M.A3 n M.q3) := blk_cell BX 2
  have RN := Lib.hid (reach_no (t := t) (h.no K1.out) hn fr s0 ah hno)
  obtain ⟨A1, q1, A2, q2, A3, q3⟩ := M
  unfold MpC.val at RN ⊢
  simp only at hb0 hb1 hb2 HW1 RN ⊢
  clear hw1 h BX hno
  go_enter Tryd.func21, Tryd.ntmps21
  go_upto_region 1 with fail
  rw [← HW1.out]
  go_wp2_with fail
  refine RN.out.mono ?_
  rintro e w2 ⟨rfl, k2⟩
  have K2 := Lib.hid (K1.out.no k2)
  clear k2
  go_wp2_with fail
  go_ret2
  exact plR_nil rfl K2.out
theorem drop_find {p : Nat → Bool} {l : List Nat} {m c : Nat} (h : l[m]? = some c) : (l.drop m).find? p = if p c then some c else (l.drop (m + 1)).find? p := by
  have hm := (List.getElem?_eq_some_iff.1 h).1
  rw [List.drop_eq_getElem_cons hm, (List.getElem?_eq_some_iff.1 h).2, List.find?_cons]
  cases p c <;> rfl
open Classical in
theorem find_cm {T : Int → List (Int × Int)} {st near : Nat → List Nat} {fr k a : Nat} {s0 : Int} {ok p : Nat → Bool} (h : ∀ c ∈ near a, p c = (decide (Rch T st fr s0 k c) && ok c)) : (near a).find? p = cmP T st near fr s0 ok k a := by
  unfold cmP
  have key : ∀ l : List Nat, (∀ c ∈ l, p c = (decide (Rch T st fr s0 k c) && ok c)) → l.find? p = l.find? fun c => ok c && decide (Rch T st fr s0 k c) := by
    intro l
    induction l with
    | nil => intro _; rfl
    | cons c l ih =>
      intro hl
      rw [List.find?_cons, List.find?_cons, hl c List.mem_cons_self, ih (fun d hd => hl d (List.mem_cons_of_mem _ hd)), Bool.and_comm]
  exact key _ h
set_option maxHeartbeats 4000000 in
set_option maxRecDepth 100000 in
theorem r7Plan_ok {f : Flr} {n : Nat} {M : MpC} {Vs : List SlC} {br : Nat} {T : Int → List (Int × Int)} {w : World} (h : MpW f n M Vs w) (hn : n ≤ 1000) (hR : RefW w br T) (hT : WFT T) (fr : Nat) (s0 tg : Int) (A : Nat) (hA : A ≤ 1024) (hok : spOk f fr s0 = true) :
    Calls Tryd.prog 21 #[M.val n, .pointer (some ⟨br, 0, none⟩), .int .i64 (fr : Int), .int .i64 s0, .int .i64 tg, .int .i64 (A : Int)] w (PlR (planR f T fr s0 tg A) w) := by
  obtain ⟨P, hP⟩ : ∃ P, P = planR f T fr s0 tg A := ⟨_, rfl⟩
  rw [← hP]
  have HP := Lib.hid hP
  have HOK := Lib.hid hok
  have hpt : ptOk f fr = true := by unfold spOk at hok; simp only [Bool.and_eq_true] at hok; exact hok.1.1
  have hs : 0 ≤ s0 ∧ s0 < 1048576 := by
    unfold spOk at hok; simp only [Bool.and_eq_true, decide_eq_true_eq] at hok; exact ⟨hok.1.2, hok.2⟩
  obtain ⟨hs0, hs1⟩ := hs
  obtain ⟨k0, hk0, hkn, hr⟩ := ptOk_nat hpt
  obtain rfl : fr = k0 := by omega
  have hnf : n = f.s.size := by rw [h.hn]; unfold mpN; rw [if_pos (rightB_iff.2 hr)]
  have HNF := Lib.hid hnf; have HRT := Lib.hid hr
  have HFN := Lib.hid (show fr < n by omega)
  obtain ⟨w1, hw1⟩ : ∃ w1, w1 = w.alloc (.cells #[.slice M.A1 n M.q1, .slice M.A2 n M.q2, .slice M.A3 n M.q3] 36) := ⟨_, rfl⟩
  have K1 := Lib.hid (show Kp No w w1 by rw [hw1]; exact (Kp.refl _ _).alloc _)
  have BX := Lib.hid (show w1.heap[w.heap.size]? = some (.cells #[.slice M.A1 n M.q1, .slice M.A2 n M.q2, .slice M.A3 n M.q3] 36 (0, 0)) by rw [hw1]; exact blk_new w _)
  have HW1 := Lib.hid hw1
  clear hw1
  have lb : ∀ wx, Kp No w1 wx → wx.cell? ⟨w.heap.size, 0, none⟩ = some (.slice M.A1 n M.q1) ∧ wx.cell? ⟨w.heap.size, 1, none⟩ = some (.slice M.A2 n M.q2) ∧ wx.cell? ⟨w.heap.size, 2, none⟩ = some (.slice M.A3 n M.q3) := fun wx hk => by
    have := hk.blk BX.out (no_no _)
    exact ⟨blk_cell this 0, blk_cell this 1, blk_cell this 2⟩
  have LB := Lib.hid lb
  clear lb
  have RO := Lib.hid (reach_ok (h.no K1.out) hn (hR.no K1.out) hT fr s0 A hA hok)
  have MW := Lib.hid (h.no K1.out)
  have RW := Lib.hid (hR.no K1.out)
  have HT := Lib.hid hT
  obtain ⟨st, hst⟩ : ∃ st, st = stepsP f fr [] := ⟨_, rfl⟩
  rw [← hst] at RO
  have HST := Lib.hid hst
  have RLT := Lib.hid (show ∀ (m c : Nat), Rch T st fr s0 m c → c < n from fun m => by
    induction m with
    | zero => intro c hc; have hc : c = fr := hc; rw [hc]; omega
    | succ m ih =>
      rintro c ⟨_, hc | ⟨u, hu, hcu⟩⟩
      · exact ih c hc
      · rw [hst] at hcu; rw [hnf]; exact steps_sz hr (by rw [← hnf]; exact ih u hu) hcu)
  have FLP := Lib.hid (show Flp T st (fun c => nearP f c) fr s0 (okF f fr) by rw [hst]; exact flp_floor hr (ptOk_ne1 hpt) (fun m c hc => by have := RLT.out m c (by rw [hst]; exact hc); omega))
  obtain ⟨hb0, hb1, hb2⟩ := LB.out w1 (Kp.refl _ _)
  obtain ⟨g3, o3, hA3⟩ := h.op.some_ (by omega)
  have hop := (h.no K1.out).op
  rw [hA3] at hop
  obtain ⟨g2, o2, hA2⟩ := h.ln.some_ (by omega)
  have hln := (h.no K1.out).ln
  rw [hA2] at hln
  obtain ⟨g1, o1, hA1⟩ := h.nr.some_ (by omega)
  have hnr := (h.no K1.out).nr
  rw [hA1] at hnr
  have HOP := Lib.hid (fun wx (hk : Kp No w1 wx) (i : Nat) (hi : i < n) => show wx.cell? ⟨g3, o3 + i, none⟩ = some (.bool (bt f.s i != 35)) from (hop.kpNo hk).one BoK1 (opL_get hi))
  have HLN := Lib.hid (fun wx (hk : Kp No w1 wx) (i : Nat) (hi : i < n) => show wx.cell? ⟨g2, o2 + i, none⟩ = some (.bool (decide (kdS f.s i = 2))) from by
    have h1 := (hln.kpNo hk).one BoK1 (lnB_get (f := f) (k := n) hi)
    rw [h1]
    congr 2
    rw [decide_eq_decide]
    exact ⟨fun a => a.2, fun a => ⟨hi, a⟩⟩)
  have HNR := Lib.hid (fun (i : Nat) (hi : i < n) => show ∃ An qn, (∀ wx, Kp No w1 wx → wx.cell? ⟨g1, o1 + i, none⟩ = some (.slice An (nearP f i).length qn)) ∧ Rd IK w1 (.slice An (nearP f i).length qn) (ints (nearP f i)) from by
    have MW := h.no K1.out
    obtain ⟨⟨An, m, qn⟩, hv⟩ : ∃ v, Vs[i]? = some v := ⟨_, List.getElem?_eq_getElem (by rw [h.len]; exact hi)⟩
    have hrd := MW.rd i _ hv
    unfold slv at hrd
    simp only at hrd
    obtain ⟨A', q', hsh⟩ := hrd.shape
    simp only [Value.slice.injEq] at hsh
    obtain ⟨rfl, hm, rfl⟩ := hsh
    rw [ints_len] at hm
    rw [hm] at hrd
    refine ⟨An, qn, fun wx hk => ?_, hrd⟩
    have := (hnr.kpNo hk).one SvK1 hv
    rw [this]; unfold slv; rw [hm])
  obtain ⟨A1, q1, A2, q2, A3, q3⟩ := M
  unfold MpC.val at RO ⊢
  simp only at hb0 hb1 hb2 RO LB HW1 hA1 hA2 hA3 ⊢
  subst hA1 hA2 hA3
  clear hok h hR hT BX hst hP hpt hk0 hkn hr hnf hop hln hnr
  go_enter Tryd.func21, Tryd.ntmps21
  go_upto_region 1 with fail
  rw [← HW1.out]
  go_wp2_with fail
  refine RO.out.mono ?_
  rintro e w2 ⟨av, Ls, rfl, lv⟩
  have hll := lv.len
  rcases lv.own.b with ⟨hv, he⟩ | ⟨ga, qa, hv, _, _, _⟩
  · rw [he] at hll; simp at hll
  rw [hll] at hv
  subst hv
  have LV := Lib.hid lv
  have GC := Lib.hid (fun wx (hk : Kp No w2 wx) (i : Nat) (hi : i ≤ A) => show ∃ g, wx.cell? ⟨ga, i, none⟩ = some (.slice (some ⟨g, 0, none⟩) n n) ∧ Blk Value.bool 4 wx g (lvB n (Rch T st fr s0 i)) from by
    have L2 := LV.out.no hk
    obtain ⟨x, hx⟩ : ∃ x, Ls[i]? = some x := ⟨_, List.getElem?_eq_getElem (by rw [L2.len]; omega)⟩
    obtain ⟨g, e, b, _, _⟩ := L2.lv i x hx
    refine ⟨g, ?_, b⟩
    have := L2.own.rd.one SvK1 hx
    rw [Nat.zero_add] at this
    rw [this, e]; rfl)
  have K2 := Lib.hid lv.kp
  have K02 := Lib.hid (K1.out.no lv.kp)
  clear hb0 hb1 hb2 lv hll RO
  obtain ⟨hb0, hb1, hb2⟩ := LB.out w2 K2.out
  have hne : (((A + 1 : Nat) : Int) == 0) = false := by simp; omega
  obtain ⟨a1, ha1⟩ : ∃ a, a = A + 1 := ⟨_, rfl⟩
  rw [← ha1] at hne ⊢
  have HA1 := Lib.hid ha1
  clear ha1
  by_cases h0 : tg < 0
  · have HE := Lib.hid (show P = ([], 1) by rw [HP.out]; unfold planR; rw [if_neg]; rintro ⟨_, _, h⟩; unfold opQ at h; simp at h; omega)
    go_wp2_with fail
    go_ret2
    exact plR_nil HE.out K02.out
  by_cases h1 : (n : Int) ≤ tg
  · have HE := Lib.hid (show P = ([], 1) by rw [HP.out]; unfold planR; rw [if_neg]; rintro ⟨_, _, h⟩; unfold opQ at h; simp only [Bool.and_eq_true, decide_eq_true_eq] at h; have := HNF.out; omega)
    go_wp2_with fail
    go_ret2
    exact plR_nil HE.out K02.out
  obtain ⟨c, rfl⟩ : ∃ c : Nat, tg = c := ⟨tg.toNat, by omega⟩
  have hcn : c < n := by omega
  have hcI : (c : Int) < (n : Int) := by omega
  have hcop := HOP.out w2 K2.out c hcn
  obtain ⟨ob, hob⟩ : ∃ b, (bt f.s c != 35) = b := ⟨_, rfl⟩
  rw [hob] at hcop
  have HOB := Lib.hid hob
  clear hob
  cases ob with
  | false =>
    have HE := Lib.hid (show P = ([], 1) by rw [HP.out]; unfold planR; rw [if_neg]; rintro ⟨_, _, h⟩; unfold opQ at h; rw [Int.toNat_natCast, HOB.out] at h; simp at h)
    go_wp2_with fail
    go_ret2
    exact plR_nil HE.out K02.out
  | true =>
    have HOQ := Lib.hid (show opQ f (c : Int) = true by unfold opQ; rw [Int.toNat_natCast, HOB.out]; have := HNF.out; simp; omega)
    by_cases hck : c = fr
    · subst hck
      have HE := Lib.hid (show P = ([], 0) by rw [HP.out]; unfold planR; rw [if_pos ⟨HOK.out, by simp; omega, HOQ.out⟩, if_pos rfl])
      go_wp2_with fail
      go_ret2
      exact plR_nil HE.out K02.out
    have hckI : ((c : Int) == (fr : Int)) = false := by simp; omega
    have HCK := Lib.hid hck
    have HCN := Lib.hid hcn
    clear hck h0 h1 hcn
    go_wp2_with fail
    go_loopg [15] (A + 2) (fun g_ nv wx => ∃ k : Nat, g_ = A + 2 - k ∧ nv = .int .i64 (k : Int) ∧ k ≤ A + 1 ∧ (∀ j, j < k → ¬ Rch T st fr s0 j c) ∧ Kp No w2 wx)
    case atStart => exact ⟨0, rfl, rfl, by omega, fun j hj => by omega, Kp.refl _ _⟩
    case round =>
      obtain ⟨k, hg, rfl, hk, hno, kp⟩ := hrel
      have NO := Lib.hid hno; have KP := Lib.hid kp
      clear hno kp hb0 hb1 hb2 hcop
      by_cases hkA : k ≤ A
      · have hkI : (k : Int) < (a1 : Int) := by have := HA1.out; omega
        have hwk : IntKind.i64.wrap ((k : Int) + 1) = (k : Int) + 1 := IntWalk.i64_in _ (by omega)
        obtain ⟨g, hcg, hbk⟩ := GC.out wr KP.out k hkA
        obtain ⟨b, hb⟩ : ∃ b, (lvB n (Rch T st fr s0 k))[c]? = some b := ⟨_, lvB_get HCN.out⟩
        have hcb := hbk.get hb
        have HB := Lib.hid (lvB_iff hb).2
        clear hb hbk
        cases b with
        | false =>
          go_wp2_with fail
          go_roundg (A + 2 - (k + 1))
          case measure => omega
          case rel => exact ⟨k + 1, rfl, by go_num, by omega, (fun j hj => by
            rcases Nat.lt_or_ge j k with h | h
            · exact NO.out j h
            · obtain rfl : j = k := by omega
              exact (fun e => by have := HB.out.2 e; cases this)), KP.out⟩
        | true =>
          have HRK := Lib.hid (show Rch T st fr s0 k c by first | exact HB.out.1 trivial | exact HB.out.1 rfl)
          have HE := Lib.hid (show P = (plF f T fr s0 k c, 0) by
            rw [HP.out]
            exact planR_at HOK.out hA HOQ.out HCK.out hs0 hkA (by rw [← HST.out]; exact HRK.out) (by rw [← HST.out]; exact NO.out))
          have hka : ((k : Int) == (a1 : Int)) = false := by simp; omega
          have HKA := Lib.hid hkA
          clear hkA
          go_wp2_with fail
          obtain ⟨w3, hw3⟩ : ∃ y : World, y = wr := ⟨_, rfl⟩
          rw [← hw3] at KP ⊢
          have K3 := Lib.hid KP.out
          have K03 := Lib.hid (K02.out.no KP.out)
          clear hw3 KP
          obtain ⟨kk, hkk⟩ : ∃ z, z = k := ⟨_, rfl⟩
          rw [← hkk] at HE HRK HKA
          have HKK := Lib.hid hkk
          obtain ⟨gO, hgO⟩ : ∃ z, z = gk := ⟨_, rfl⟩
          clear hcg hcb
          go_loopg [15, 16, 17] (kk + 1) (fun g_ nv ov av wx => ∃ (m a : Nat) (L : List (Int × Int)), g_ = m + 1 ∧ nv = .int .i64 (m : Int) ∧ av = .int .i64 (a : Int) ∧ m ≤ kk ∧ Rch T st fr s0 m a ∧ NewS TK 58 w3 wx ov L ∧ plF f T fr s0 kk c = plF f T fr s0 m a ++ L ∧ L.length + m ≤ kk)
          case atStart => exact ⟨kk, c, [], rfl, by rw [HKK.out], rfl, Nat.le_refl _, HRK.out, NewS.nil TK 58 w3, by simp, by simp⟩
          case round =>
            obtain ⟨m0, a, L, hgm, rfl, rfl, hm0, rc, ns, ple, hlb⟩ := hrel
            have RC0 := Lib.hid rc; have NS := Lib.hid ns; have PLE0 := Lib.hid ple; have HLB0 := Lib.hid hlb
            have HM0 := Lib.hid hm0
            clear rc ns ple hlb hm0
            obtain ⟨nw, hnw⟩ : ∃ z : Int, z = (m0 : Int) := ⟨_, rfl⟩
            rw [← hnw]
            have HNW := Lib.hid hnw
            clear hnw
            have K3R := Lib.hid (K3.out.no NS.out.kp)
            obtain ⟨stop, hstop⟩ : ∃ b, b = (decide (a = fr) && wtB (T (fr : Int)) s0 m0) := ⟨_, rfl⟩
            have HSTOP := Lib.hid hstop
            clear hstop
            go_upto_region 13 with fail
            go_cut [73, 74, 75, 76, 77, 78, 79, 80, 81, 82, 83] (fun _ _ _ _ _ _ _ _ _ _ v83 wx => v83 = .bool (!stop) ∧ Kp No wr wx)
            case first =>
              by_cases hafr : a = fr
              · have dA : ((a : Int) == (fr : Int)) = true := by simp; omega
                obtain ⟨r, hr⟩ : ∃ r, wtB (T (fr : Int)) s0 m0 = r := ⟨_, rfl⟩
                have WT := Lib.hid (waits_any (RW.out.no (K2.out.no K3R.out)) HT.out (fr : Int) s0 ⟨hs0, hs1⟩ m0 (by have := HM0.out; have := HKA.out; omega) r hr)
                rw [← HNW.out] at WT
                have HS := Lib.hid (show stop = r by rw [HSTOP.out, hr, hafr]; simp)
                clear hafr hr
                go_wp2_with fail
                refine WT.out.mono ?_
                rintro e w4 ⟨rfl, k4⟩
                have K4 := Lib.hid k4
                clear k4
                go_wp2_with fail
                go_meet
                exact ⟨by rw [HS.out], K4.out⟩
              · have dA : ((a : Int) == (fr : Int)) = false := by simp; omega
                have HS := Lib.hid (show stop = false by rw [HSTOP.out]; simp [hafr])
                clear hafr
                go_wp2_with fail
                go_meet
                exact ⟨by rw [HS.out]; rfl, Kp.refl _ _⟩
            case rest =>
              obtain ⟨rfl, k4⟩ := hcut
              obtain ⟨w4, hw4⟩ : ∃ y : World, y = wc := ⟨_, rfl⟩
              rw [← hw4] at k4 ⊢
              have NS4 := Lib.hid (NS.out.kpNo k4)
              have K34 := Lib.hid (K3R.out.no k4)
              clear hw4 k4
              cases stop with
              | true =>
                have hs := HSTOP.out.symm
                simp only [Bool.and_eq_true, decide_eq_true_eq] at hs
                have HEQ := Lib.hid (show plF f T fr s0 kk c = L by
                  rw [PLE0.out, hs.1]; unfold plF
                  rw [plP_stop ((wtB_iff HT.out m0).1 hs.2)]; rfl)
                obtain ⟨lo, hlo⟩ : ∃ l, l = L.length := ⟨_, rfl⟩
                obtain ⟨Ao, qo, hov⟩ := NS4.out.own.rd.shape
                rw [← hlo] at hov
                subst hov
                have HLO := Lib.hid hlo
                clear hs hlo
                go_wp2_with fail
                go_ret2
                refine ⟨Ao, qo, by rw [HE.out]; simp only; rw [HEQ.out, ← HLO.out]; rfl, ?_⟩
                rw [HE.out]
                simp only
                rw [HEQ.out, ← HLO.out]
                exact ⟨NS4.out.own, fun g hg => by have := NS4.out.ge g hg; have := K03.out.size; omega, K03.out.no NS4.out.kp⟩
              | false =>
                obtain ⟨m, rfl⟩ : ∃ m, m0 = m + 1 := by
                  rcases m0 with _ | m
                  · exfalso
                    have h1 : a = fr := RC0.out
                    have := HSTOP.out
                    rw [h1] at this
                    simp [wtB] at this
                  · exact ⟨m, rfl⟩
                have NST := Lib.hid (show ¬ (a = fr ∧ s0 + ((m + 1 : Nat) : Int) < to0 T fr s0) from by
                  rintro ⟨h1, h2⟩
                  have h3 := HSTOP.out
                  rw [h1, (wtB_iff HT.out (m + 1)).2 h2] at h3
                  simp at h3)
                have HAN := Lib.hid (RLT.out _ a RC0.out)
                obtain ⟨An, qn, hncell, hnrd⟩ := HNR.out a HAN.out
                obtain ⟨NL, hNL⟩ : ∃ l, l = nearP f a := ⟨_, rfl⟩
                rw [← hNL] at hncell hnrd
                obtain ⟨ln0, hln0⟩ : ∃ z, z = NL.length := ⟨_, rfl⟩
                rw [← hln0] at hncell hnrd
                have hl4 : ln0 ≤ 4 := by rw [hln0, hNL]; exact near_len4 _ _
                have HNL := Lib.hid hNL; have HLN0 := Lib.hid hln0
                have hnc := hncell w4 (K2.out.no K34.out)
                have RN := Lib.hid (hnrd.kpNo (K2.out.no K34.out))
                obtain ⟨hb0, hb1, hb2⟩ := LB.out w4 (K2.out.no K34.out)
                have haI : (a : Int) < (n : Int) := by have := HAN.out; omega
                have hwl : IntKind.i64.wrap ((ln0 : Int) - 1) = (ln0 : Int) - 1 := IntWalk.i64_in _ (by omega)
                clear hNL hln0 hncell hnrd
                go_wp2_with fail
                obtain ⟨p, hp⟩ : ∃ p : Nat → Bool, p = fun x => (lvB n (Rch T st fr s0 m)).getD x false && okF f fr x := ⟨_, rfl⟩
                have HPP := Lib.hid hp
                clear hp
                obtain ⟨wB, hwB⟩ : ∃ y : World, y = w4 := ⟨_, rfl⟩
                rw [← hwB] at NS4 K34 RN
                have WB := Lib.hid (show Kp No wB w4 by rw [hwB]; exact Kp.refl _ _)
                clear hwB hb0 hb1 hb2 hnc
                obtain ⟨gP, hgP⟩ : ∃ z, z = gk := ⟨_, rfl⟩
                go_loopg [18, 20] (ln0 + 1) (fun g_ pv iv wx => ∃ j : Nat, g_ = j + 1 ∧ iv = .int .i64 ((j : Int) - 1) ∧ j ≤ ln0 ∧ pv = .int .i64 (optI ((NL.drop j).find? p)) ∧ Kp No wB wx)
                case atStart => exact ⟨ln0, rfl, rfl, Nat.le_refl _, by rw [HLN0.out, List.drop_length]; rfl, WB.out⟩
                case round =>
                  clear WB
                  obtain ⟨j, hgj, rfl, hj, rfl, kj⟩ := hrel
                  have KJ := Lib.hid kj
                  clear kj
                  by_cases hj0 : j = 0
                  · subst hj0
                    have hd0 : ¬ ((0 : Nat) : Int) - 1 ≥ 0 := by omega
                    obtain ⟨r, hr⟩ : ∃ r, NL.find? p = r := ⟨_, rfl⟩
                    rw [List.drop_zero, hr]
                    have HRR := Lib.hid (show cmP T st (fun c => nearP f c) fr s0 (okF f fr) m a = r from by
                      rw [← find_cm (p := p) (a := a) ?_]
                      · rw [← hr, HNL.out]
                      · intro x hx
                        have hxn : x < n := by rw [HNF.out]; exact near_sz HRT.out (by rw [← HNF.out]; exact HAN.out) hx
                        rw [HPP.out]
                        simp only
                        rw [List.getD_eq_getElem?_getD, lvB_get hxn, Option.getD_some])
                    have NS5 := Lib.hid (NS4.out.kpNo KJ.out)
                    have hwn : IntKind.i64.wrap (nw - 1) = (m : Int) := by rw [HNW.out, IntWalk.i64_in _ (by have := HM0.out; have := HKA.out; omega)]; omega
                    clear hr
                    cases r with
                    | none =>
                      have RC2 := Lib.hid (rch_stay FLP.out RC0.out HRR.out)
                      have PL2 := Lib.hid (show plF f T fr s0 kk c = plF f T fr s0 m a ++ L by
                        rw [PLE0.out]
                        unfold plF
                        rw [HST.out] at HRR
                        rw [plP_none NST.out HRR.out])
                      have hc0 : decide ((-1 : Int) ≥ 0) = false := by simp
                      unfold optI
                      simp only
                      go_wp2_with fail
                      go_roundg (m + 1)
                      case measure => omega
                      case rel => exact ⟨m, a, L, rfl, rfl, rfl, by have := HM0.out; omega, RC2.out, NS5.out, PL2.out, by have := HLB0.out; omega⟩
                    | some c2 =>
                      have RC2 := Lib.hid (cmP_some HRR.out).2.2
                      have PL2 := Lib.hid (show plF f T fr s0 kk c = plF f T fr s0 m c2 ++ ([((a : Int), s0 + ((m + 1 : Nat) : Int))] ++ L) by
                        rw [PLE0.out]
                        unfold plF
                        rw [HST.out] at HRR
                        rw [plP_some NST.out HRR.out, List.append_assoc])
                      obtain ⟨tm, htm⟩ : ∃ z : Int, z = s0 + ((m + 1 : Nat) : Int) := ⟨_, rfl⟩
                      rw [← htm] at PL2
                      have hws : IntKind.i64.wrap (s0 + (m : Int)) = s0 + (m : Int) := IntWalk.i64_in _ (by have := HM0.out; have := HKA.out; omega)
                      have hwt : IntKind.i64.wrap (s0 + (m : Int) + 1) = tm := by rw [IntWalk.i64_in _ (by have := HM0.out; have := HKA.out; omega)]; omega
                      have hc0 : decide ((c2 : Int) ≥ 0) = true := by simp
                      obtain ⟨lo, hlo⟩ : ∃ l, l = L.length := ⟨_, rfl⟩
                      obtain ⟨Ao, qo, hov⟩ := NS5.out.own.rd.shape
                      rw [← hlo] at hov
                      subst hov
                      have HLO := Lib.hid hlo
                      have hlob : lo ≤ 1024 := by have := HLB0.out; have := HKA.out; omega
                      have HTM := Lib.hid htm
                      clear hlo htm
                      unfold optI
                      simp only
                      go_wp2_with (at_builtin; refine wpl_append elT rfl (.tmp 139) (.tmp 140) rfl rfl rfl (v := .slice (some ⟨wr.heap.size, 0, none⟩) 1 1) (l := [((a : Int), tm)]) (m := L) ?c1 ?c2 ?c3 ?c4 ?c5)
                      case c1 => exact Own.lit TK 58 wr _ [((a : Int), tm)] rfl (by unfold maxLen; simp)
                      case c2 => exact NS5.out.own.rd.alloc _
                      case c3 => unfold maxLen; have := HLO.out; first | omega | (rw [List.length_singleton]; omega)
                      case c4 => have := HLO.out; first | omega | (rw [List.length_singleton]; omega)
                      case c5 =>
                        intro v' w' k1 k2 k3
                        have N6 := Lib.hid (show NewS TK 58 w3 w' v' ([((a : Int), tm)] ++ L) from ⟨k1, fun g hg => by
                          have h1 := NS5.out.kp.size
                          rcases k3 g hg with e | e
                          · simp only [Value.ownBlock, Option.some.injEq] at e; omega
                          · have := ((Kp.refl No wr).alloc (.cells #[.int .i64 (a : Int), .int .i64 tm] 58)).size; omega, (NS5.out.kp.alloc _).trans' k2 fun j hj e => by
                          have h1 := NS5.out.kp.size
                          simp only [Value.ownBlock, Option.some.injEq] at e; omega⟩)
                        clear k1 k2 k3
                        go_wp2_with fail
                        go_roundg (m + 1)
                        case measure => omega
                        case rel => exact ⟨m, c2, _, rfl, rfl, rfl, by have := HM0.out; omega, RC2.out, N6.out, PL2.out, by rw [List.length_append, List.length_singleton]; have := HLB0.out; omega⟩
                  · obtain ⟨i, rfl⟩ : ∃ i, j = i + 1 := ⟨j - 1, by omega⟩
                    have hd0 : (i : Int) ≥ 0 := by omega
                    rw [show ((i + 1 : Nat) : Int) - 1 = (i : Int) by omega]
                    have hiL : (i : Int) < (ln0 : Int) := by omega
                    obtain ⟨x, hx⟩ : ∃ x, NL[i]? = some x := ⟨_, List.getElem?_eq_getElem (by rw [← HLN0.out]; omega)⟩
                    rcases (RN.out.kpNo KJ.out) with ⟨_, he⟩ | ⟨g, o, cap', hv, _⟩
                    · have := congrArg List.length he; rw [ints_len, ← HLN0.out] at this; simp at this; omega
                    simp only [Value.slice.injEq] at hv
                    obtain ⟨rfl, hzz, rfl⟩ := hv
                    have hcx : wr.cell? ⟨g, o + i, none⟩ = some (.int .i64 (x : Int)) := (RN.out.kpNo KJ.out).intAt (ints_get hx)
                    have hxn : x < n := by rw [HNF.out]; exact near_sz HRT.out (by rw [← HNF.out]; exact HAN.out) (by rw [← HNL.out]; exact List.mem_of_getElem? hx)
                    have hxI : (x : Int) < (n : Int) := by omega
                    have KW := Lib.hid (K34.out.no KJ.out)
                    obtain ⟨gl, hlg, hbk⟩ := GC.out wr (KW.out) m (by have := HM0.out; have := HKA.out; omega)
                    obtain ⟨b1, hb1v⟩ : ∃ b, (lvB n (Rch T st fr s0 m))[x]? = some b := ⟨_, lvB_get hxn⟩
                    have hlc := hbk.get hb1v
                    obtain ⟨b2, hb2v⟩ : ∃ b, decide (kdS f.s x = 2) = b := ⟨_, rfl⟩
                    have hlane := HLN.out wr (K2.out.no (KW.out)) x hxn
                    rw [hb2v] at hlane
                    obtain ⟨b3, hb3v⟩ : ∃ b, ((x : Int) == (fr : Int)) = b := ⟨_, rfl⟩
                    have hmA : (m : Int) < (a1 : Int) := by have := HM0.out; have := HKA.out; have := HA1.out; omega
                    have hwn : IntKind.i64.wrap (nw - 1) = (m : Int) := by rw [HNW.out, IntWalk.i64_in _ (by have := HM0.out; have := HKA.out; omega)]; omega
                    have hwd : IntKind.i64.wrap ((i : Int) - 1) = (i : Int) - 1 := IntWalk.i64_in _ (by omega)
                    have HX := Lib.hid hx
                    have HPX := Lib.hid (show p x = (b1 && (b2 || b3)) by
                      rw [HPP.out]
                      simp only
                      rw [List.getD_eq_getElem?_getD, hb1v, Option.getD_some]
                      unfold okF
                      rw [hb2v, ← hb3v]
                      congr 2
                      by_cases e : x = fr
                      · simp [e]
                      · have : ((x : Int) == (fr : Int)) = false := by simp; omega
                        rw [this]; simp [e])
                    have HDR := Lib.hid (drop_find (p := p) hx)
                    obtain ⟨hb0, hb1, hb2⟩ := LB.out wr (K2.out.no (KW.out))
                    obtain ⟨px, hpx⟩ : ∃ b, b = p x := ⟨_, rfl⟩
                    have HPXX := Lib.hid hpx
                    clear hzz hx hb1v hb2v hbk hxn hpx hj0
                    go_upto_region 19 with fail
                    go_cut [96, 97, 98, 99, 100, 101, 102, 103, 104, 105, 106, 107, 108, 109, 110, 111, 112, 113, 114, 115, 116, 117, 118, 119, 120, 121, 122, 123, 124] (fun _ _ _ _ _ _ _ _ _ _ _ _ _ _ _ _ _ _ _ _ _ _ _ _ _ _ _ _ v124 wx => v124 = .bool px ∧ Kp No wr wx)
                    case first =>
                      have hcs : (b1 = false) ∨ (b1 = true ∧ b2 = true) ∨ (b1 = true ∧ b2 = false) := by cases b1 <;> cases b2 <;> simp
                      rcases hcs with rfl | ⟨rfl, rfl⟩ | ⟨rfl, rfl⟩
                      all_goals
                        go_quiet (fail)
                        go_wp2_with fail
                        go_meet
                        exact ⟨by rw [HPXX.out, HPX.out]; rfl, (Kp.refl No _).drewN _⟩
                    case rest =>
                      obtain ⟨rfl, k5⟩ := hcut
                      obtain ⟨w5, hw5⟩ : ∃ y : World, y = wc := ⟨_, rfl⟩
                      rw [← hw5] at k5 ⊢
                      have K5 := Lib.hid (KJ.out.no k5)
                      have hcx5 : w5.cell? ⟨g, o + i, none⟩ = some (.int .i64 (x : Int)) := (RN.out.kpNo (KJ.out.no k5)).intAt (ints_get HX.out)
                      clear hw5 k5 hb0 hb1 hb2 hlane hlc hlg hcx
                      cases px with
                      | true =>
                        have HD := Lib.hid (show (NL.drop i).find? p = some x by rw [HDR.out, ← HPXX.out]; rfl)
                        go_wp2_with fail
                        go_roundg (i + 1)
                        case measure => omega
                        case rel => exact ⟨i, rfl, rfl, by omega, by rw [HD.out]; rfl, K5.out⟩
                      | false =>
                        have HD := Lib.hid (show (NL.drop i).find? p = (NL.drop (i + 1)).find? p by rw [HDR.out, ← HPXX.out]; rfl)
                        go_wp2_with fail
                        go_roundg (i + 1)
                        case measure => omega
                        case rel => exact ⟨i, rfl, rfl, by omega, by rw [HD.out], K5.out⟩
      · have hkE : k = A + 1 := by omega
        have hka : ((k : Int) == (a1 : Int)) = true := by have := HA1.out; simp; omega
        have hkI : ¬ (k : Int) < (a1 : Int) := by have := HA1.out; omega
        have HE := Lib.hid (show P = ([], 2) by rw [HP.out]; exact planR_none HOK.out hA HOQ.out HCK.out (by rw [← HST.out, ← hkE]; exact NO.out))
        clear hkE hkA
        go_wp2_with fail
        go_ret2
        exact plR_nil HE.out (K02.out.no KP.out)
end Go.Proofs.YtgdokpfepfmbmaaDoor

namespace Go.Proofs.YtgdokpfepfmbmaaDoor
set_option linter.unusedVariables false
set_option linter.unusedSimpArgs false
open Go.RowKit

theorem r7Plan_any {f : Flr} {n : Nat} {M : MpC} {Vs : List SlC} {br : Nat} {T : Int → List (Int × Int)} {w : World} (h : MpW f n M Vs w) (hR : RefW w br T) (hT : WFT T) (fr s0 tg ah : Int) :
    Calls Tryd.prog 21 #[M.val n, .pointer (some ⟨br, 0, none⟩), .int .i64 fr, .int .i64 s0, .int .i64 tg, .int .i64 ah] w (PlR (planR f T fr s0 tg ah) w) := by
  have hn : n ≤ 1000 := by
    rw [h.hn]; unfold mpN
    split
    · rename_i hr; have := (rightB_iff.1 hr).s256; omega
    · omega
  by_cases hc : spOk f fr s0 = true ∧ 0 ≤ ah ∧ ah ≤ 1024
  · obtain ⟨hok, h0, h1⟩ := hc
    have hpt : ptOk f fr = true := by unfold spOk at hok; simp only [Bool.and_eq_true] at hok; exact hok.1.1
    obtain ⟨k, rfl, _, hr⟩ := ptOk_nat hpt
    obtain ⟨A, rfl⟩ : ∃ A : Nat, ah = A := ⟨ah.toNat, by omega⟩
    exact r7Plan_ok h hn hR hT k s0 tg A (by omega) hok
  · have e : planR f T fr s0 tg ah = ([], 1) := by
      unfold planR
      rw [if_neg]
      rintro ⟨a, b, _⟩
      simp only [Bool.and_eq_true, decide_eq_true_eq] at b
      exact hc ⟨a, b⟩
    rw [e]
    exact r7Plan_no h hn fr s0 tg ah hc
theorem case_cells {w1 wx : World} {bx : Nat} {a b c d e f g h : Value} (hb : w1.heap[bx]? = some (.cells #[a, b, c, d, e, f, g, h] 26 (0, 0))) (hk : Kp No w1 wx) :
    wx.cell? ⟨bx, 0, none⟩ = some a ∧ wx.cell? ⟨bx, 1, none⟩ = some b ∧ wx.cell? ⟨bx, 2, none⟩ = some c ∧ wx.cell? ⟨bx, 3, none⟩ = some d ∧ wx.cell? ⟨bx, 4, none⟩ = some e ∧ wx.cell? ⟨bx, 5, none⟩ = some f ∧ wx.cell? ⟨bx, 6, none⟩ = some g ∧ wx.cell? ⟨bx, 7, none⟩ = some h := by
  have h1 := hk.blk hb (no_no _)
  exact ⟨blk_cell h1 0, blk_cell h1 1, blk_cell h1 2, blk_cell h1 3, blk_cell h1 4, blk_cell h1 5, blk_cell h1 6, blk_cell h1 7⟩
set_option maxRecDepth 100000 in
theorem small07_any (f : Flr) (lv : Value) (fr tg s0 ah : Int) (hsz : f.s.size ≤ 9223372036854775807) (t : Bool) (ht : t = (decide (f.s.size ≤ 60) && (decide (ah ≤ 60) || decide (1024 < ah)))) (w : World) :
    Calls Tryd.prog 14 #[.agg #[.int .i64 f.W, .int .i64 f.H, .string f.s, lv, .int .i64 fr, .int .i64 tg, .int .i64 s0, .int .i64 ah]] w fun e w' => e = .returned (.bool t) ∧ Kp No w w' := by
  obtain ⟨X, Y, s⟩ := f
  simp only at ht hsz ⊢
  obtain ⟨w1, hw1⟩ : ∃ y : World, y = w.alloc (.cells #[.int .i64 X, .int .i64 Y, .string s, lv, .int .i64 fr, .int .i64 tg, .int .i64 s0, .int .i64 ah] 26) := ⟨_, rfl⟩
  have BX := Lib.hid (show w1.heap[w.heap.size]? = some (.cells #[.int .i64 X, .int .i64 Y, .string s, lv, .int .i64 fr, .int .i64 tg, .int .i64 s0, .int .i64 ah] 26 (0, 0)) by rw [hw1]; exact blk_new w _)
  have K1 := Lib.hid (show Kp No w w1 by rw [hw1]; exact (Kp.refl _ _).alloc _)
  have HW1 := Lib.hid hw1
  obtain ⟨c0, c1, c2, c3, c4, c5, c6, c7⟩ := case_cells BX.out (Kp.refl _ _)
  obtain ⟨n, hn⟩ : ∃ n, n = s.size := ⟨_, rfl⟩
  have hnI : ((s.size : Nat) : Int) = (n : Int) := by omega
  obtain ⟨d1, h1⟩ : ∃ d, decide ((n : Int) ≤ 60) = d := ⟨_, rfl⟩
  obtain ⟨d2, h2⟩ : ∃ d, decide (ah ≤ 60) = d := ⟨_, rfl⟩
  obtain ⟨d3, h3⟩ : ∃ d, decide (ah > 1024) = d := ⟨_, rfl⟩
  have HE := Lib.hid (show t = (d1 && (d2 || d3)) by
    rw [ht, h2, ← h3, ← h1, ← hn]
    congr 1
    rw [decide_eq_decide]; omega)
  clear hn hw1 ht hsz
  have hcs : d1 = false ∨ (d1 = true ∧ d2 = true) ∨ (d1 = true ∧ d2 = false) := by cases d1 <;> cases d2 <;> simp
  rcases hcs with rfl | ⟨rfl, rfl⟩ | ⟨rfl, rfl⟩
  all_goals
    go_enter Tryd.func14, Tryd.ntmps14
    go_upto_region 1 with fail
    rw [← HW1.out]
    go_wp2_with fail
    go_ret
    exact ⟨by rw [HE.out]; first | rfl | simp [h3], K1.out⟩
/-- What tables left, as the walks use it. -/
theorem AtJ.rep {w0 w wx : World} {bt br : Nat} {T : Int → List (Int × Int)} {R : List Rw} (h : AtJ w0 bt T br R w) (hk : Kp No w wx) : ∃ F, RepT wx bt T F := let ⟨F, _, t⟩ := h; ⟨F, t.t.kpNo hk⟩
theorem AtJ.rep2 {w0 w wx : World} {bt br : Nat} {T : Int → List (Int × Int)} {R : List Rw} (h : AtJ w0 bt T br R w) (hk : Kp No w wx) : ∃ F, RepT wx bt T F ∧ ∀ k, F k → w0.heap.size ≤ k := let ⟨F, _, t⟩ := h; ⟨F, t.t.kpNo hk, t.fo⟩
theorem AtJ.ref {w0 w wx : World} {bt br : Nat} {T : Int → List (Int × Int)} {R : List Rw} (h : AtJ w0 bt T br R w) (hR : ∀ c, flt R c = T c) (hl : R.length ≤ 60) (hk : Kp No w wx) : RefW wx br T := let ⟨_, V, t⟩ := h; ⟨R, V, t.r.kpNo hk, by omega, hR⟩
theorem tab60_free (L : List Rw) (c : Int) : (freeL (tabT (L.take 60) c)).length ≤ 61 := by
  have h1 := freeL_len (tabT (L.take 60) c)
  have h2 := tabT_len (L.take 60) c
  have h3 : (L.take 60).length ≤ 60 := by rw [List.length_take]; omega
  omega
end Go.Proofs.YtgdokpfepfmbmaaDoor

namespace Go.Proofs.YtgdokpfepfmbmaaDoor
set_option linter.unusedVariables false
set_option linter.unusedSimpArgs false
open Go.RowKit

theorem insL_mem {l : List (Int × Int)} {i : Nat} {y x : Int × Int} (h : x ∈ l) : x ∈ insL l i y := by
  unfold insL
  rw [← List.take_append_drop i l] at h
  rcases List.mem_append.1 h with h | h <;> simp [h]
theorem isF_take {T : Int → List (Int × Int)} (hT : WFT T) {c a b k m : Int} (h : isF (takeT T c a b k) m = true) : isF (T k) m = true := by
  have h2 := (hT.take c a b) k
  rw [ref_is h2] at h
  rw [ref_is (hT k)]
  simp only [Bool.and_eq_true, Bool.not_eq_true'] at h ⊢
  refine ⟨?_, h.2⟩
  cases hb : inB m (T k) with
  | false => rfl
  | true =>
    obtain ⟨x, hx, h3, h4⟩ := inB_iff.1 hb
    have : inB m (takeT T c a b k) = true := by
      refine inB_iff.2 ⟨x, ?_, h3, h4⟩
      unfold takeT
      split
      · unfold setT
        split
        · rename_i e; subst e; exact insL_mem hx
        · exact hx
      · exact hx
    rw [this] at h; cases h.1
def foldT (l : List Rw) (T : Int → List (Int × Int)) : Int → List (Int × Int) := l.foldl (fun T r => takeT T r.1 r.2.1 r.2.2) T
theorem foldT_snoc {l : List Rw} {T : Int → List (Int × Int)} {k : Nat} {x : Rw} (h : l[k]? = some x) : foldT (l.take (k + 1)) T = takeT (foldT (l.take k) T) x.1 x.2.1 x.2.2 := by
  unfold foldT; rw [List.take_add_one, h, List.foldl_append]; rfl
theorem foldT_free : ∀ (l : List Rw) (T : Int → List (Int × Int)), WFT T → ∀ k m, isF (foldT l T k) m = true → isF (T k) m = true := by
  intro l
  induction l with
  | nil => intro T _ k m h; exact h
  | cons x l ih => intro T hT k m h; exact isF_take hT (ih _ (hT.take x.1 x.2.1 x.2.2) k m h)
theorem rch_mono {T T2 : Int → List (Int × Int)} {st : Nat → List Nat} {fr : Nat} {s0 : Int} (h : ∀ k m, isF (T2 k) m = true → isF (T k) m = true) : ∀ k c, Rch T2 st fr s0 k c → Rch T st fr s0 k c := by
  intro k
  induction k with
  | zero => intro c hc; exact hc
  | succ k ih =>
    rintro c ⟨h1, h2 | ⟨u, h2, h3⟩⟩
    · exact ⟨h _ _ h1, .inl (ih c h2)⟩
    · exact ⟨h _ _ h1, .inr ⟨u, ih u h2, h3⟩⟩
theorem soon_mono {f : Flr} {T T2 : Int → List (Int × Int)} {fr s0 ah : Int} (h : ∀ k m, isF (T2 k) m = true → isF (T k) m = true) : (soonP f T2 fr s0 ah).length = (soonP f T fr s0 ah).length ∧ ∀ (i : Nat) (a b : Int), (soonP f T fr s0 ah)[i]? = some a → (soonP f T2 fr s0 ah)[i]? = some b → 0 ≤ b → 0 ≤ a ∧ a ≤ b := by
  unfold soonP
  by_cases hc : spOk f fr s0 = true ∧ (decide (0 ≤ ah) && decide (ah ≤ 1024)) = true
  · rw [if_pos hc, if_pos hc]
    refine ⟨by rw [snL_len, snL_len], fun i a b ha hb h0 => ?_⟩
    have hi := (List.getElem?_eq_some_iff.1 ha).1
    rw [snL_len] at hi
    rw [snL_get hi] at ha hb
    simp only [Option.some.injEq] at ha hb
    have hs : 0 ≤ s0 := by
      have := hc.1
      unfold spOk at this
      simp only [Bool.and_eq_true, decide_eq_true_eq] at this
      exact this.1.2
    have h1 := sn_is T (stepsP f fr.toNat []) fr.toNat s0 ah.toNat i
    have h2 := sn_is T2 (stepsP f fr.toNat []) fr.toNat s0 ah.toNat i
    rw [ha] at h1; rw [hb] at h2
    rcases h2 with ⟨e, _⟩ | ⟨k2, hk2, e2, r2, _⟩
    · omega
    have r1 := rch_mono h k2 i r2
    rcases h1 with ⟨_, no⟩ | ⟨k1, _, e1, _, l1⟩
    · exact absurd r1 (no _ hk2)
    · have := l1 _ r1; omega
  · rw [if_neg hc, if_neg hc]
    exact ⟨rfl, fun i a b ha => by simp at ha⟩
theorem foldT_free_len (L : List Rw) (M : List Rw) (hM : M.length ≤ 60) (c : Int) : (freeL (foldT M (tabT (L.take 60)) c)).length ≤ 121 := by
  have h1 := freeL_len (foldT M (tabT (L.take 60)) c)
  have h2 := foldT_len M (tabT (L.take 60)) c
  have h3 := tabT_len (L.take 60) c
  have h4 : (L.take 60).length ≤ 60 := by rw [List.length_take]; omega
  unfold foldT at *
  omega
set_option maxHeartbeats 4000000 in
set_option maxRecDepth 100000 in
theorem more_row (x : Ca) (hsz : x.f.s.size ≤ 9223372036854775807) {w : World} (hL : Rd RK w x.lv x.L) {lv2 : Value} {l : List Rw} (hL2 : Rd RK w lv2 l) : Calls Tryd.prog 4 #[x.val, lv2] w (LawR w) := by
  unfold LawR
  have HSH := Lib.hid shown07_any
  obtain ⟨F, lv, L, fr, tg, s0, ah⟩ := x
  simp only at hsz hL
  obtain ⟨t, ht⟩ : ∃ t, t = (decide (F.s.size ≤ 60) && (decide (ah ≤ 60) || decide (1024 < ah))) := ⟨_, rfl⟩
  have SM := Lib.hid (fun w => small07_any F lv fr tg s0 ah hsz t ht w)
  have H60 := Lib.hid (show t = true → F.s.size ≤ 60 ∧ (ah ≤ 60 ∨ 1024 < ah) by intro e; rw [ht] at e; simpa using e)
  obtain ⟨T, hT⟩ : ∃ T, T = tabT (L.take 60) := ⟨_, rfl⟩
  have HTW := Lib.hid (show WFT T by rw [hT]; exact tabT_wf _)
  have HTF := Lib.hid (show ∀ c : Int, (freeL (T c)).length ≤ 61 by intro c; rw [hT]; exact tab60_free L c)
  have HTT := Lib.hid hT
  have hl2 := hL2.lenI
  unfold Ca.val
  simp only
  obtain ⟨f, hf⟩ : ∃ f, f = F := ⟨_, rfl⟩
  have HF := Lib.hid hf
  rw [← hf] at SM ⊢
  obtain ⟨w1, hw1⟩ : ∃ y : World, y = w.alloc (.cells #[.int .i64 f.W, .int .i64 f.H, .string f.s, lv, .int .i64 fr, .int .i64 tg, .int .i64 s0, .int .i64 ah] 26) := ⟨_, rfl⟩
  have BX := Lib.hid (show w1.heap[w.heap.size]? = some (.cells #[.int .i64 f.W, .int .i64 f.H, .string f.s, lv, .int .i64 fr, .int .i64 tg, .int .i64 s0, .int .i64 ah] 26 (0, 0)) by rw [hw1]; exact blk_new w _)
  have KB := Lib.hid (show Kp No w w1 by rw [hw1]; exact (Kp.refl _ _).alloc _)
  have HL1 := Lib.hid (hL.kpNo KB.out)
  have HL2 := Lib.hid (hL2.kpNo KB.out)
  obtain ⟨A2, c2_, hlv2⟩ := hL2.shape
  obtain ⟨n2, hn2⟩ : ∃ z, z = l.length := ⟨_, rfl⟩
  rw [← hn2] at hlv2 hl2
  unfold maxLen at hl2
  subst hlv2
  have HN2 := Lib.hid hn2
  clear hn2 hL2
  obtain ⟨X, Y, s⟩ := f
  simp only at SM BX hw1 ⊢
  have HW1 := Lib.hid hw1
  have LB := Lib.hid (fun wx (hk : Kp No w1 wx) => case_cells BX.out hk)
  clear hsz hL ht hT hf hw1
  go_enter Tryd.func4, Tryd.ntmps4
  go_upto_region 1 with fail
  rw [← HW1.out]
  go_wp2_with fail
  refine (HSH.out _).mono ?_
  rintro e w2 ⟨rfl, k2⟩
  have K2 := Lib.hid k2
  clear k2
  obtain ⟨c0, c1, c2, c3, c4, c5, c6, c7⟩ := LB.out w2 K2.out
  go_wp2_with fail
  refine (tables_any (HL1.out.kpNo K2.out)).mono ?_
  rintro e w3 ⟨bt, br, R, rfl, aj, hR, hRl⟩
  rw [← HTT.out] at aj hR
  have AJ := Lib.hid aj; have HR := Lib.hid hR
  have K3 := Lib.hid (K2.out.no aj.kp)
  clear aj hR c0 c1 c2 c3 c4 c5 c6 c7
  obtain ⟨c0, c1, c2, c3, c4, c5, c6, c7⟩ := LB.out w3 K3.out
  go_wp2_with fail
  refine (SM.out _).mono ?_
  rintro e w4 ⟨rfl, k4⟩
  have PT := Lib.hid (fun wx (hk : Kp No w4 wx) => AJ.out.rep (k4.no hk))
  have RW := Lib.hid (fun wx (hk : Kp No w4 wx) => AJ.out.ref HR.out hRl (k4.no hk))
  have PT2 := Lib.hid (fun wx (hk : Kp No w4 wx) => AJ.out.rep2 (k4.no hk))
  have KJ4 := Lib.hid (show Kp No w2 w4 from AJ.out.kp.no k4)
  have K4 := Lib.hid (K3.out.no k4)
  clear k4 c0 c1 c2 c3 c4 c5 c6 c7 AJ HR hRl
  cases t with
  | false =>
    go_wp2_with fail
    go_ret
    exact ⟨rfl, KB.out.no K4.out⟩
  | true =>
    obtain ⟨h60, hah⟩ := H60.out rfl
    have HC := Lib.hid (show F.s.size ≤ 60 ∧ (ah ≤ 60 ∨ 1024 < ah) from ⟨h60, hah⟩)
    have HWC := Lib.hid (fun (c : Nat) (_ : c < F.s.size) => HTF.out (c : Int))
    clear h60 hah
    obtain ⟨c0, c1, c2, c3, c4, c5, c6, c7⟩ := LB.out w4 K4.out
    have HV := Lib.hid (show F.val = .agg #[.int .i64 X, .int .i64 Y, .string s] by rw [← HF.out]; rfl)
    obtain ⟨Na, hNa⟩ : ∃ N, N = soonP F T fr s0 ah := ⟨_, rfl⟩
    have SO := Lib.hid (fun wx FT (h : RepT wx bt T FT) => spSoon_any F HC.out.1 HTW.out (by omega) HWC.out fr s0 ah HC.out.2 bt h)
    rw [← hNa] at SO
    obtain ⟨Tb, hTb⟩ : ∃ z, z = foldT (l.take 60) T := ⟨_, rfl⟩
    have WTB := Lib.hid (show WFT Tb by rw [hTb]; exact foldT_wf _ _ HTW.out)
    obtain ⟨Nb, hNb⟩ : ∃ N, N = soonP F Tb fr s0 ah := ⟨_, rfl⟩
    have SB := Lib.hid (fun wx FT (h : RepT wx bt Tb FT) => spSoon_any F HC.out.1 WTB.out (W := 121) (by omega) (fun c _ => by rw [hTb, HTT.out]; exact foldT_free_len L _ (by rw [List.length_take]; omega) c) fr s0 ah HC.out.2 bt h)
    rw [← hNb] at SB
    rw [HV.out] at SO SB
    have MO := Lib.hid (show Nb.length = Na.length ∧ ∀ (i : Nat) (a b : Int), Na[i]? = some a → Nb[i]? = some b → 0 ≤ b → 0 ≤ a ∧ a ≤ b by
      rw [hNa, hNb]
      exact soon_mono (by rw [hTb]; exact foldT_free _ _ HTW.out))
    have HTB := Lib.hid hTb
    obtain ⟨na, hna⟩ : ∃ z, z = Na.length := ⟨_, rfl⟩
    have HNA := Lib.hid hna
    have HNAP := Lib.hid hNa
    clear hNa hNb hTb hna
    obtain ⟨FT4, p4⟩ := PT.out w4 (Kp.refl _ _)
    go_wp2_with fail
    refine (SO.out _ _ p4).mono ?_
    rintro e w5 ⟨va, rfl, n5⟩
    obtain ⟨Aa, qa, hva⟩ := n5.own.rd.shape
    rw [← HNA.out] at hva
    subst hva
    obtain ⟨F5, r5, g5⟩ := PT2.out w5 n5.kp
    obtain ⟨F4, r4, g4⟩ := PT2.out w4 (Kp.refl _ _)
    have AP5 := Lib.hid (show Apt (.slice Aa na qa) F4 w5 from n5.apt r4)
    have R5 := Lib.hid (r4.kpNo n5.kp)
    have G5 := Lib.hid g4
    have RA5 := Lib.hid n5.own.rd
    have K25 := Lib.hid (KJ4.out.no n5.kp)
    have B2 := Lib.hid (K2.out.blk BX.out (no_no _))
    have hb2 := lt_of_block B2.out
    clear n5 r4 g4 r5 g5 p4 c0 c1 c2 c3 c4 c5 c6 c7
    go_wp2_with fail
    go_loopg [45] (n2 + 1) (fun g_ iv wx => ∃ (i : Nat) (T' : Int → List (Int × Int)) (F' : Nat → Prop), g_ = n2 + 1 - i ∧ iv = .int .i64 i ∧ i ≤ n2 ∧ T' = foldT ((l.take 60).take i) T ∧ RepT wx bt T' F' ∧ (∀ k, F' k → w2.heap.size ≤ k) ∧ Rd IK wx (.slice Aa na qa) Na ∧ Apt (.slice Aa na qa) F' wx ∧ Kp No w2 wx)
    case atStart => exact ⟨0, T, F4, rfl, rfl, by omega, rfl, R5.out, G5.out, RA5.out, AP5.out, K25.out⟩
    case round =>
      obtain ⟨i, T', F', hg, rfl, hi, hT', hr, hgf, hrd, hap, kp⟩ := hrel
      have HT' := Lib.hid hT'; have RR := Lib.hid hr; have GF := Lib.hid hgf; have RA := Lib.hid hrd; have AP := Lib.hid hap; have KP := Lib.hid kp
      have WF' := Lib.hid (show WFT T' by rw [hT']; exact foldT_wf _ _ HTW.out)
      clear hT' hr hgf hrd hap kp
      have KW := Lib.hid (K2.out.no KP.out)
      by_cases hlt : i < n2
      · have hltI : (i : Int) < (n2 : Int) := by omega
        have hwi : IntKind.i64.wrap ((i : Int) + 1) = (i : Int) + 1 := IntWalk.i64_in _ (by omega)
        obtain ⟨y, hy⟩ : ∃ y, l[i]? = some y := ⟨_, List.getElem?_eq_getElem (by rw [← HN2.out]; exact hlt)⟩
        rcases (HL2.out.kpNo KW.out) with ⟨_, he⟩ | ⟨g, o, cap', hv, _⟩
        · have := HN2.out; rw [he, List.length_nil] at this; omega
        simp only [Value.slice.injEq] at hv
        obtain ⟨rfl, hzz, rfl⟩ := hv
        obtain ⟨hx0, hx1, hx2, hx3⟩ := (HL2.out.kpNo KW.out).rowAt hy
        have HY := Lib.hid hy
        obtain ⟨by_, hby⟩ : ∃ b, b = wr.heap.size := ⟨_, rfl⟩
        obtain ⟨w6, hw6⟩ : ∃ y_ : World, y_ = wr.alloc (.cells #[.int .i64 y.1, .int .i64 y.2.1, .int .i64 y.2.2] 45) := ⟨_, rfl⟩
        have BY := Lib.hid (show w6.heap[by_]? = some (.cells #[.int .i64 y.1, .int .i64 y.2.1, .int .i64 y.2.2] 45 (0, 0)) by rw [hw6, hby]; exact blk_new wr _)
        have K6 := Lib.hid (show Kp No wr w6 by rw [hw6]; exact (Kp.refl _ _).alloc _)
        have HW6 := Lib.hid hw6; have HBY := Lib.hid hby
        clear hzz hy hlt hw6 hby
        go_upto_region 9 with fail
        rw [← HW6.out, ← HBY.out]
        clear hx0 hx1 hx2 hx3
        have e0 : w6.cell? ⟨by_, 0, none⟩ = some (.int .i64 y.1) := blk_cell BY.out 0
        have e1 : w6.cell? ⟨by_, 1, none⟩ = some (.int .i64 y.2.1) := blk_cell BY.out 1
        have e2 : w6.cell? ⟨by_, 2, none⟩ = some (.int .i64 y.2.2) := blk_cell BY.out 2
        by_cases h60 : i < 60
        · have h6I : (i : Int) < 60 := by omega
          have hy6 : (l.take 60)[i]? = some y := by rw [List.getElem?_take, if_pos h60]; exact HY.out
          have HFS := Lib.hid (foldT_snoc (T := T) hy6)
          have TA := Lib.hid (take_any (RR.out.kpNo K6.out) WF'.out y.1 y.2.1 y.2.2)
          clear hy6
          go_wp2_with fail
          refine TA.out.mono ?_
          rintro e w7 ⟨rfl, F7, r7, k7, f7⟩
          obtain ⟨ra7, ap7⟩ := tab_apt (bt := bt) (T := T) (T' := T) k7 f7 (RA.out.kpNo K6.out) (AP.out.no K6.out)
          have K67 := KP.out.no K6.out
          have KN := Lib.hid (show Kp No w2 w7 from K67.trans' k7 fun j hj e => by have := GF.out j e; omega)
          have GN := Lib.hid (show ∀ k, F7 k → w2.heap.size ≤ k from fun k e => by
            rcases f7 _ e with e | e
            · exact GF.out _ e
            · have := K67.size; omega)
          have R7 := Lib.hid r7; have RA7 := Lib.hid ra7; have AP7 := Lib.hid ap7
          clear r7 k7 f7 ra7 ap7 K67 e0 e1 e2
          go_wp2_with fail
          go_roundg (n2 + 1 - (i + 1))
          case measure => omega
          case rel => exact ⟨i + 1, _, F7, rfl, by go_num, by omega, by rw [HFS.out, ← HT'.out], R7.out, GN.out, RA7.out, AP7.out, KN.out⟩
        · have h6I : ¬ (i : Int) < 60 := by omega
          have HTE := Lib.hid (show (l.take 60).take (i + 1) = (l.take 60).take i from by
            have e : (l.take 60).length ≤ i := by rw [List.length_take]; omega
            exact (List.take_of_length_le (by omega)).trans (List.take_of_length_le e).symm)
          clear h60
          go_wp2_with fail
          go_roundg (n2 + 1 - (i + 1))
          case measure => omega
          case rel => exact ⟨i + 1, T', F', rfl, by go_num, by omega, by rw [HTE.out]; exact HT'.out, RR.out.kpNo K6.out, GF.out, RA.out.kpNo K6.out, AP.out.no K6.out, KP.out.no K6.out⟩
      · obtain rfl : i = n2 := by omega
        have hd0 : ¬ (i : Int) < (i : Int) := by omega
        have HTE := Lib.hid (show T' = Tb by
          rw [HT'.out, HTB.out, List.take_of_length_le (by rw [List.length_take, ← HN2.out]; omega)])
        have RB := Lib.hid (show RepT wr bt Tb F' by rw [← HTE.out]; exact RR.out)
        clear hlt
        obtain ⟨c0, c1, c2, c3, c4, c5, c6, c7⟩ := LB.out wr KW.out
        go_wp2_with fail
        refine (SB.out _ _ RB.out).mono ?_
        rintro e w6 ⟨vb, rfl, n6⟩
        obtain ⟨Ab, qb, hvb⟩ := n6.own.rd.shape
        rw [MO.out.1, ← HNA.out] at hvb
        subst hvb
        have RB6 := Lib.hid n6.own.rd
        have RA6 := Lib.hid (RA.out.kpNo n6.kp)
        have K6 := Lib.hid (KW.out.no n6.kp)
        have hnab : na ≤ 60 := by
          have h1 := RA.out.lenI
          have h2 := HC.out.1
          rw [HNA.out, HNAP.out]
          unfold soonP
          split
          · rw [snL_len]; exact h2
          · simp
        have hne : (((na : Nat) : Int) != (na : Int)) = false := by simp
        clear n6 c0 c1 c2 c3 c4 c5 c6 c7
        go_wp2_with fail
        obtain ⟨gO, hgO⟩ : ∃ z, z = gk := ⟨_, rfl⟩
        obtain ⟨wB, hwB⟩ : ∃ y : World, y = w6 := ⟨_, rfl⟩
        rw [← hwB] at RB6 RA6 K6 ⊢
        clear hwB
        go_loopg [76] (na + 1) (fun g_ iv wx => ∃ j : Nat, g_ = na + 1 - j ∧ iv = .int .i64 j ∧ j ≤ na ∧ Kp No wB wx)
        case atStart => exact ⟨0, rfl, rfl, by omega, Kp.refl _ _⟩
        case round =>
          obtain ⟨j, hgj, rfl, hj, kj⟩ := hrel
          have KJ := Lib.hid kj
          clear kj
          by_cases hjn : j < na
          · have hjI : (j : Int) < (na : Int) := by omega
            have hwj : IntKind.i64.wrap ((j : Int) + 1) = (j : Int) + 1 := IntWalk.i64_in _ (by omega)
            obtain ⟨xa, hxa⟩ : ∃ z, Na[j]? = some z := ⟨_, List.getElem?_eq_getElem (by rw [← HNA.out]; exact hjn)⟩
            obtain ⟨xb, hxb⟩ : ∃ z, Nb[j]? = some z := ⟨_, List.getElem?_eq_getElem (by rw [MO.out.1, ← HNA.out]; exact hjn)⟩
            rcases (RA6.out.kpNo KJ.out) with ⟨_, he⟩ | ⟨ga, oa, ca, hva, _⟩
            · have := HNA.out; rw [he, List.length_nil] at this; omega
            simp only [Value.slice.injEq] at hva
            obtain ⟨rfl, hz1, rfl⟩ := hva
            rcases (RB6.out.kpNo KJ.out) with ⟨_, he⟩ | ⟨gb, ob, cb, hvb, _⟩
            · have := HNA.out; rw [← MO.out.1, he, List.length_nil] at this; omega
            simp only [Value.slice.injEq] at hvb
            obtain ⟨rfl, hz2, rfl⟩ := hvb
            have hca := (RA6.out.kpNo KJ.out).intAt hxa
            have hcb := (RB6.out.kpNo KJ.out).intAt hxb
            have hm := MO.out.2 j xa xb hxa hxb
            obtain ⟨d1, hd1⟩ : ∃ d, decide (xb ≥ 0) = d := ⟨_, rfl⟩
            have hcs : d1 = false ∨ (d1 = true ∧ decide (xa < 0) = false ∧ decide (xa > xb) = false) := by
              cases d1 with
              | false => exact .inl rfl
              | true =>
                have : xb ≥ 0 := by simpa using hd1
                have := hm (by omega)
                exact .inr ⟨rfl, by simp; omega, by simp; omega⟩
            clear hxa hxb hz1 hz2 hm hjn
            go_upto_region 18 with fail
            go_cut [79, 80, 81, 82, 83, 84, 85, 86, 87, 88, 89, 90, 91, 92, 93, 94, 95, 96, 97, 98, 99, 100, 101] (fun _ _ _ _ _ _ _ _ _ _ _ _ _ _ _ _ _ _ _ _ _ _ v101 wx => v101 = .bool false ∧ Kp No wr wx)
            case first =>
              rcases hcs with rfl | ⟨rfl, e1, e2⟩
              all_goals
                go_quiet (fail)
                go_wp2_with fail
                go_meet
                exact ⟨by first | rfl | simp, (Kp.refl No _).drewN _⟩
            case rest =>
              obtain ⟨rfl, k7⟩ := hcut
              obtain ⟨w7, hw7⟩ : ∃ y : World, y = wc := ⟨_, rfl⟩
              rw [← hw7] at k7 ⊢
              have K7 := Lib.hid (KJ.out.no k7)
              clear hw7 k7 hca hcb hd1 hcs
              go_wp2_with fail
              go_roundg (na + 1 - (j + 1))
              case measure => omega
              case rel => exact ⟨j + 1, rfl, by go_num, by omega, K7.out⟩
          · obtain rfl : j = na := by omega
            have hd0 : ¬ (j : Int) < (j : Int) := by omega
            clear hjn
            go_wp2_with fail
            go_ret
            exact ⟨rfl, KB.out.no (K6.out.no KJ.out)⟩
end Go.Proofs.YtgdokpfepfmbmaaDoor
