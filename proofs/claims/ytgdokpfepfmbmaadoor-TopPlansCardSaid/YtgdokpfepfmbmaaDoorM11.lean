/- Arguments: slices of ints; Arguments of carfaxlaw07: cases, rows, steps; carfaxref07.Plan; carfaxlaw07: small; what all its laws need; slices.Index, slices.Contains of ints: the world stays; sipp.Is, plain: what it answers; Ways through time, plain: what a plan is. No function of the program; Ways through time, plain: how far a cell is, and when it is reached; what no time keeps. No function of the program; Plans one behind the other: the table as it is taken, moment by moment (plain); maps with keys of two ints. No condition. -/
import Derived.Test.YtgdokpfepfmbmaaDoorM10
import Derived.Test.YtgdokpfepfmbmaaDoorM3
import Derived.Test.YtgdokpfepfmbmaaDoorM2
import Derived.Test.YtgdokpfepfmbmaaDoorM9
import Derived.Test.YtgdokpfepfmbmaaDoorM6
import Derived.Deep.LoopGhost
import Derived.Test.YtgdokpfepfmbmaaDoorM7
import Derived.WideKeyRuns

namespace Go.Proofs.YtgdokpfepfmbmaaDoor
set_option linter.unusedVariables false
set_option linter.unusedSimpArgs false
open Go.ChangeShapes Go.WideShapes Go.ChangeAt Go.RowKit Go.Joins
section
variable {H : Type} {enc : TypeId × Value → H} {w : World} {base : Nat} {spare : Nat → Bool} {held : Bool}
theorem int_dec {n : Nat} {cs : List Value} {y : DataW H × List MemPlace} (h : DataW.trod enc Tryd.prog w base spare held n 3 cs = some y) : ∃ x : Int, cs = IK.enc x ∧ True := by
  obtain ⟨k, e0, _, wk⟩ := DataW.trod_int Tryd.underlying3 h
  exact ⟨k, by rw [e0]; rfl, trivial⟩
theorem RdA.rd' {α : Type} {K : Kd α} {w : World} {A : Option Addr} {cap : Nat} {l : List α} (h : RdA K w (.slice A l.length cap) l) (h3 : l.length ≤ cap) (h4 : cap ≤ maxLen) : Rd K w (.slice A l.length cap) l := by
  obtain ⟨A', cap', e, hi⟩ := h
  simp only [Value.slice.injEq] at e
  obtain ⟨rfl, _, rfl⟩ := e
  by_cases h0 : l = []
  · subst h0; exact .inl ⟨⟨A, cap, rfl⟩, rfl⟩
  · obtain ⟨x, hx⟩ : ∃ x, l[0]? = some x := ⟨_, List.getElem?_eq_getElem (by cases l with | nil => exact absurd rfl h0 | cons _ _ => simp)⟩
    obtain ⟨g, o, rfl, _⟩ := hi 0 x hx
    refine .inr ⟨g, o, cap, rfl, h3, h4, fun j u hu => ?_⟩
    have hjl : j < l.length * K.sz := by rw [← K.length_encs]; exact (List.getElem?_eq_some_iff.1 hu).1
    have hp := K.pos
    have hq : j / K.sz < l.length := Nat.div_lt_of_lt_mul (by rw [Nat.mul_comm]; exact hjl)
    obtain ⟨y, hy⟩ : ∃ y, l[j / K.sz]? = some y := ⟨_, List.getElem?_eq_getElem hq⟩
    obtain ⟨g', o', e2, hc⟩ := hi _ y hy
    simp only [Option.some.injEq, Addr.mk.injEq] at e2
    obtain ⟨rfl, rfl, _⟩ := e2
    have hm : j % K.sz < K.sz := Nat.mod_lt _ hp
    have he := K.encs_get l (j / K.sz) (j % K.sz) y hy hm
    have hj : j / K.sz * K.sz + j % K.sz = j := Nat.div_add_mod' j K.sz
    rw [hj, hu] at he
    have := hc _ u he.symm
    rw [Nat.add_assoc, hj] at this
    exact this
set_option maxRecDepth 100000 in
theorem open_ints {v : Value} {d : DataW H} {p : List MemPlace} {r : Reach} {b0 : Nat} (hv : Value.okWide Tryd.prog w r b0 39 v) (h : DataW.Trod enc Tryd.prog w base spare held 39 v d p) : ∃ l : List Int, Rd IK w v l := by
  obtain ⟨a0, len, cap, rfl⟩ := okWide_slice Tryd.underlying39 hv
  obtain ⟨fuel, hf⟩ := h
  obtain ⟨l, h1, h2, A, cap, e, h3, h4⟩ := open_rows (K := IK) (fun _ : Int => True) Tryd.underlying39 (by kernel_rfl) (fun n cs' y hy => int_dec hy) hf
  rw [e] at h1 ⊢
  exact ⟨l, h1.rd' h3 h4⟩
end
end Go.Proofs.YtgdokpfepfmbmaaDoor

namespace Go.Proofs.YtgdokpfepfmbmaaDoor
set_option linter.unusedVariables false
set_option linter.unusedSimpArgs false
open Go.ChangeShapes Go.WideShapes Go.ChangeAt Go.RowKit Go.Joins

section
variable {H : Type} {enc : TypeId × Value → H} {w : World} {base : Nat} {spare : Nat → Bool} {held : Bool}
set_option maxRecDepth 100000 in
theorem floor_dec {n : Nat} {cs : List Value} {y : DataW H × List MemPlace} (h : DataW.trod enc Tryd.prog w base spare held n 23 cs = some y) : ∃ f : Flr, cs = [.int .i64 f.W, .int .i64 f.H, .string f.s] ∧ f.s.size ≤ 9223372036854775807 := by
  obtain ⟨ys, n', rfl, hy, hlen, hyl, hf⟩ := DataW.trod_struct Tryd.underlying23 h
  have hc : Tryd.prog.cellsOf 23 = 3 := by kernel_rfl
  have hi : Tryd.prog.cellsOf 3 = 1 := by kernel_rfl
  have hs : Tryd.prog.cellsOf 9 = 1 := by kernel_rfl
  rw [hc] at hlen
  match cs, hlen with
  | [c0, c1, c2], _ =>
    match ys, hyl with
    | [y0, y1, y2], _ =>
      have h0 := hf 0 _ rfl
      have h1 := hf 1 _ rfl
      have h2 := hf 2 _ rfl
      simp [hi, hs] at h0 h1 h2
      obtain ⟨a, e0, _, _⟩ := DataW.trod_int Tryd.underlying3 h0
      obtain ⟨b, e1, _, _⟩ := DataW.trod_int Tryd.underlying3 h1
      obtain ⟨s, e2, _, hb⟩ := DataW.trod_string Tryd.underlying9 h2
      simp at e0 e1 e2
      exact ⟨⟨a, b, s⟩, by rw [e0, e1, e2], hb⟩
set_option maxRecDepth 100000 in
theorem win2_dec {n : Nat} {cs : List Value} {y : DataW H × List MemPlace} (h : DataW.trod enc Tryd.prog w base spare held n 43 cs = some y) : ∃ a b : Int, cs = [.int .i64 a, .int .i64 b] := by
  obtain ⟨ys, n', rfl, hy, hlen, hyl, hf⟩ := DataW.trod_struct Tryd.underlying43 h
  have hc : Tryd.prog.cellsOf 43 = 2 := by kernel_rfl
  have hi : Tryd.prog.cellsOf 3 = 1 := by kernel_rfl
  rw [hc] at hlen
  match cs, hlen with
  | [c0, c1], _ =>
    match ys, hyl with
    | [y0, y1], _ =>
      have h0 := hf 0 _ rfl
      have h1 := hf 1 _ rfl
      simp [hi] at h0 h1
      obtain ⟨a, e0, _, _⟩ := DataW.trod_int Tryd.underlying3 h0
      obtain ⟨b, e1, _, _⟩ := DataW.trod_int Tryd.underlying3 h1
      simp at e0 e1
      exact ⟨a, b, by rw [e0, e1]⟩
set_option maxRecDepth 100000 in
theorem row07_dec {n : Nat} {cs : List Value} {y : DataW H × List MemPlace} (h : DataW.trod enc Tryd.prog w base spare held n 45 cs = some y) : ∃ x : Rw, cs = RK.enc x ∧ True := by
  obtain ⟨ys, n', rfl, hy, hlen, hyl, hf⟩ := DataW.trod_struct Tryd.underlying45 h
  have hc : Tryd.prog.cellsOf 45 = 3 := by kernel_rfl
  have hi : Tryd.prog.cellsOf 3 = 1 := by kernel_rfl
  have hw : Tryd.prog.cellsOf 43 = 2 := by kernel_rfl
  rw [hc] at hlen
  match cs, hlen with
  | [c0, c1, c2], _ =>
    match ys, hyl with
    | [y0, y1], _ =>
      have h0 := hf 0 _ rfl
      have h1 := hf 1 _ rfl
      simp [hi, hw] at h0 h1
      obtain ⟨c, e0, _, _⟩ := DataW.trod_int Tryd.underlying3 h0
      obtain ⟨a, b, e1⟩ := win2_dec h1
      simp at e0 e1
      exact ⟨(c, (a, b)), by rw [e0, e1.1, e1.2]; rfl, trivial⟩
set_option maxRecDepth 100000 in
theorem step_dec {n : Nat} {cs : List Value} {y : DataW H × List MemPlace} (h : DataW.trod enc Tryd.prog w base spare held n 58 cs = some y) : ∃ x : Int × Int, cs = TK.enc x ∧ True := by
  obtain ⟨ys, n', rfl, hy, hlen, hyl, hf⟩ := DataW.trod_struct Tryd.underlying58 h
  have hc : Tryd.prog.cellsOf 58 = 2 := by kernel_rfl
  have hi : Tryd.prog.cellsOf 3 = 1 := by kernel_rfl
  rw [hc] at hlen
  match cs, hlen with
  | [c0, c1], _ =>
    match ys, hyl with
    | [y0, y1], _ =>
      have h0 := hf 0 _ rfl
      have h1 := hf 1 _ rfl
      simp [hi] at h0 h1
      obtain ⟨a, e0, _, _⟩ := DataW.trod_int Tryd.underlying3 h0
      obtain ⟨b, e1, _, _⟩ := DataW.trod_int Tryd.underlying3 h1
      simp at e0 e1
      exact ⟨(a, b), by rw [e0, e1]; rfl, trivial⟩
set_option maxRecDepth 100000 in
theorem rows07_dec {n : Nat} {v : Value} {y : DataW H × List MemPlace} (h : DataW.trod enc Tryd.prog w base spare held n 24 [v] = some y) : ∃ l : List Rw, Rd RK w v l := by
  obtain ⟨l, h1, h2, A, cap, e, h3, h4⟩ := open_rows (K := RK) (fun _ : Rw => True) Tryd.underlying24 (by kernel_rfl) (fun n cs' y hy => row07_dec hy) h
  rw [e] at h1 ⊢
  exact ⟨l, h1.rd' h3 h4⟩
set_option maxRecDepth 100000 in
theorem open_rows07 {v : Value} {d : DataW H} {p : List MemPlace} {r : Reach} {b0 : Nat} (hv : Value.okWide Tryd.prog w r b0 24 v) (h : DataW.Trod enc Tryd.prog w base spare held 24 v d p) : ∃ l : List Rw, Rd RK w v l := by
  obtain ⟨a0, len, cap, rfl⟩ := okWide_slice Tryd.underlying24 hv
  obtain ⟨fuel, hf⟩ := h
  exact rows07_dec hf
set_option maxRecDepth 100000 in
theorem open_steps {v : Value} {d : DataW H} {p : List MemPlace} {r : Reach} {b0 : Nat} (hv : Value.okWide Tryd.prog w r b0 49 v) (h : DataW.Trod enc Tryd.prog w base spare held 49 v d p) : ∃ l : List (Int × Int), Rd TK w v l := by
  obtain ⟨a0, len, cap, rfl⟩ := okWide_slice Tryd.underlying49 hv
  obtain ⟨fuel, hf⟩ := h
  obtain ⟨l, h1, h2, A, cap, e, h3, h4⟩ := open_rows (K := TK) (fun _ : Int × Int => True) Tryd.underlying49 (by kernel_rfl) (fun n cs' y hy => step_dec hy) hf
  rw [e] at h1 ⊢
  exact ⟨l, h1.rd' h3 h4⟩
end
/-- A case: a floor, where, where to, when, how far ahead; its rows lie in memory. -/
structure Ca where
  f : Flr
  lv : Value
  L : List Rw
  fr : Int
  tg : Int
  s0 : Int
  ah : Int
def Ca.val (x : Ca) : Value := .agg #[.int .i64 x.f.W, .int .i64 x.f.H, .string x.f.s, x.lv, .int .i64 x.fr, .int .i64 x.tg, .int .i64 x.s0, .int .i64 x.ah]
def Ca.obj (x : Ca) : Obj := .cells #[.int .i64 x.f.W, .int .i64 x.f.H, .string x.f.s, x.lv, .int .i64 x.fr, .int .i64 x.tg, .int .i64 x.s0, .int .i64 x.ah] 26
section
variable {H : Type} {enc : TypeId × Value → H} {w : World} {base : Nat} {spare : Nat → Bool} {held : Bool}
set_option maxRecDepth 100000 in
theorem open_case {v : Value} {d : DataW H} {p : List MemPlace} {r : Reach} {b0 : Nat} (hv : Value.okWide Tryd.prog w r b0 26 v) (h : DataW.Trod enc Tryd.prog w base spare held 26 v d p) :
    ∃ x : Ca, v = x.val ∧ x.f.s.size ≤ 9223372036854775807 ∧ Rd RK w x.lv x.L := by
  obtain ⟨cs, rfl, hsz⟩ := okWide_struct Tryd.underlying26 hv
  obtain ⟨fuel, hf0⟩ := h
  have hf1 : DataW.trod enc Tryd.prog w base spare held fuel 26 cs.toList = some (d, p) := hf0
  obtain ⟨ys, n', rfl, hy, hlen, hyl, hf⟩ := DataW.trod_struct Tryd.underlying26 hf1
  have hc : Tryd.prog.cellsOf 26 = 8 := by kernel_rfl
  have hi : Tryd.prog.cellsOf 3 = 1 := by kernel_rfl
  have hF : Tryd.prog.cellsOf 23 = 3 := by kernel_rfl
  have hR : Tryd.prog.cellsOf 24 = 1 := by kernel_rfl
  rw [hc] at hlen
  obtain ⟨l, hl⟩ : ∃ l, l = cs.toList := ⟨_, rfl⟩
  have hcs : cs = l.toArray := by rw [hl]
  rw [← hl] at hlen hf
  clear hf0 hf1 hl hy hsz hv
  subst hcs
  match l, hlen with
  | [c0, c1, c2, c3, c4, c5, c6, c7], _ =>
    match ys, hyl with
    | [y0, y1, y2, y3, y4, y5], _ =>
      have h0 := hf 0 _ rfl
      have h1 := hf 1 _ rfl
      have h2 := hf 2 _ rfl
      have h3 := hf 3 _ rfl
      have h4 := hf 4 _ rfl
      have h5 := hf 5 _ rfl
      simp [hi, hF, hR] at h0 h1 h2 h3 h4 h5
      obtain ⟨f, e0, hb⟩ := floor_dec h0
      obtain ⟨L, rL⟩ := rows07_dec h1
      obtain ⟨a, e2, _, _⟩ := DataW.trod_int Tryd.underlying3 h2
      obtain ⟨b, e3, _, _⟩ := DataW.trod_int Tryd.underlying3 h3
      obtain ⟨c, e4, _, _⟩ := DataW.trod_int Tryd.underlying3 h4
      obtain ⟨e, e5, _, _⟩ := DataW.trod_int Tryd.underlying3 h5
      simp at e0 e2 e3 e4 e5
      exact ⟨⟨f, c3, L, a, b, c, e⟩, by rw [e0.1, e0.2.1, e0.2.2, e2, e3, e4, e5]; rfl, hb, rL⟩
end
end Go.Proofs.YtgdokpfepfmbmaaDoor

namespace Go.Proofs.YtgdokpfepfmbmaaDoor
set_option linter.unusedVariables false
set_option linter.unusedSimpArgs false
open Go.RowKit

theorem wtB_iff {T : Int → List (Int × Int)} {fr : Nat} {s0 : Int} (hT : WFT T) (k : Nat) : wtB (T (fr : Int)) s0 k = true ↔ s0 + (k : Int) < to0 T fr s0 := by
  obtain ⟨h1, h2, h3, _⟩ := to0_spec (fr := fr) (s0 := s0) hT
  unfold wtB
  rw [List.all_eq_true]
  constructor
  · intro h
    rcases Int.lt_or_le (s0 + (k : Int)) (to0 T fr s0) with h4 | h4
    · exact h4
    · exfalso
      obtain ⟨j, hj⟩ : ∃ j : Nat, s0 + ((j + 1 : Nat) : Int) = to0 T fr s0 := ⟨(to0 T fr s0 - s0 - 1).toNat, by omega⟩
      have := h j (List.mem_range.2 (by omega))
      rw [hj, h3] at this; cases this
  · intro h i hi
    have := List.mem_range.1 hi
    exact h2 _ (by omega) (by omega)
theorem planR_none {f : Flr} {T : Int → List (Int × Int)} {fr tg A : Nat} {s0 : Int} (hok : spOk f fr s0 = true) (hA : A ≤ 1024) (hop : opQ f tg = true) (hne : tg ≠ fr) (hb : ∀ j, j < A + 1 → ¬ Rch T (stepsP f fr []) fr s0 j tg) : planR f T (fr : Int) s0 (tg : Int) (A : Int) = ([], 2) := by
  have e : sn T (stepsP f fr []) fr s0 A tg = -1 :=
    (sn_is T (stepsP f fr []) fr s0 A tg).uniq (.inl ⟨rfl, fun k hk => hb k (by omega)⟩)
  unfold planR
  rw [if_pos ⟨hok, by simp; omega, hop⟩, if_neg (by omega)]
  simp only [Int.toNat_natCast, e]
  rfl
theorem flp_floor {f : Flr} {T : Int → List (Int × Int)} {fr : Nat} {s0 : Int} (hr : RightP f) (hk : kdS f.s fr ≠ 1) (hlt : ∀ m c, Rch T (stepsP f fr []) fr s0 m c → c < f.s.size) : Flp T (stepsP f fr []) (fun c => nearP f c) fr s0 (okF f fr) := by
  intro k u a hu
  have hul := hlt k u hu
  have hok : okF f fr u = true ↔ (kdS f.s u = 2 ∨ u = fr) := by unfold okF; simp
  constructor
  · intro ha
    have h1 := steps_near ha
    have h2 := steps_of ha
    have h3 : kdS f.s u ≠ 1 := by
      rcases h2 with e | e
      · rw [e]; exact hk
      · rw [e]; decide
    exact ⟨near_flip hr hul h3 h1.1, hok.2 h2.symm⟩
  · rintro ⟨h1, h2⟩
    have h1 : u ∈ nearP f a := h1
    have ha : a < f.s.size ∧ kdS f.s a ≠ 1 := by
      unfold nearP isB at h1
      split at h1
      · rename_i hx
        simp only [Bool.and_eq_true, decide_eq_true_eq, beq_iff_eq] at hx
        have e : ((a : Int)).toNat = a := by omega
        rw [e] at hx
        rcases hx with hx | hx <;> exact ⟨by omega, by omega⟩
      · simp at h1
    have h3 := near_flip hr ha.1 ha.2 h1
    show a ∈ stepsP f fr [] u
    unfold stepsP
    rw [if_neg]
    · exact List.mem_filter.2 ⟨h3, by simp⟩
    · rintro ⟨e1, e2⟩
      rcases hok.1 h2 with e | e
      · exact e2 e
      · exact e1 e
set_option maxHeartbeats 2000000 in
set_option maxRecDepth 100000 in
theorem r7Plan_no {f : Flr} {n : Nat} {M : MpC} {Vs : List SlC} {t : Value} {w : World} (h : MpW f n M Vs w) (hn : n ≤ 1000) (fr s0 tg ah : Int) (hno : ¬ (spOk f fr s0 = true ∧ 0 ≤ ah ∧ ah ≤ 1024)) :
    Calls Tryd.prog 21 #[M.val n, t, .int .i64 fr, .int .i64 s0, .int .i64 tg, .int .i64 ah] w (PlR ([], 1) w) := by
  obtain ⟨w1, hw1⟩ : ∃ w1, w1 = w.alloc (.cells #[.slice M.A1 n M.q1, .slice M.A2 n M.q2, .slice M.A3 n M.q3] 36) := ⟨_, rfl⟩
  have K1 := Lib.hid (show Kp No w w1 by rw [hw1]; exact (Kp.refl _ _).alloc _)
  have BX : w1.heap[w.heap.size]? = some (.cells #[.slice M.A1 n M.q1, .slice M.A2 n M.q2, .slice M.A3 n M.q3] 36 (0, 0)) := by rw [hw1]; exact blk_new w _
  have HW1 := Lib.hid hw1
  have hb0 : w1.cell? ⟨w.heap.size, 0, none⟩ = some (.slice M.A1 n M.q1) := blk_cell BX 0
  have hb1 : w1.cell? ⟨w.heap.size, 1, none⟩ = some (.slice M.A2 n M.q2) := blk_cell BX 1
  have hb2 : w1.cell? ⟨w.heap.size, 2, none⟩ = some (.slice M.A3 n M.q3) := blk_cell BX 2
  have RN := Lib.hid (reach_no (t := t) (h.no K1.out) hn fr s0 ah hno)
  obtain ⟨A1, q1, A2, q2, A3, q3⟩ := M
  unfold MpC.val at RN ⊢
  simp only at hb0 hb1 hb2 HW1 RN ⊢
  clear hw1 h BX hno
  go_enter Tryd.func21, Tryd.ntmps21
  go_upto_region 1 with fail
  rw [← HW1.out]
  go_wp2_with fail
  refine RN.out.mono ?_
  rintro e w2 ⟨rfl, k2⟩
  have K2 := Lib.hid (K1.out.no k2)
  clear k2
  go_wp2_with fail
  go_ret2
  exact plR_nil rfl K2.out
theorem drop_find {p : Nat → Bool} {l : List Nat} {m c : Nat} (h : l[m]? = some c) : (l.drop m).find? p = if p c then some c else (l.drop (m + 1)).find? p := by
  have hm := (List.getElem?_eq_some_iff.1 h).1
  rw [List.drop_eq_getElem_cons hm, (List.getElem?_eq_some_iff.1 h).2, List.find?_cons]
  cases p c <;> rfl
open Classical in
theorem find_cm {T : Int → List (Int × Int)} {st near : Nat → List Nat} {fr k a : Nat} {s0 : Int} {ok p : Nat → Bool} (h : ∀ c ∈ near a, p c = (decide (Rch T st fr s0 k c) && ok c)) : (near a).find? p = cmP T st near fr s0 ok k a := by
  unfold cmP
  have key : ∀ l : List Nat, (∀ c ∈ l, p c = (decide (Rch T st fr s0 k c) && ok c)) → l.find? p = l.find? fun c => ok c && decide (Rch T st fr s0 k c) := by
    intro l
    induction l with
    | nil => intro _; rfl
    | cons c l ih =>
      intro hl
      rw [List.find?_cons, List.find?_cons, hl c List.mem_cons_self, ih (fun d hd => hl d (List.mem_cons_of_mem _ hd)), Bool.and_comm]
  exact key _ h
set_option maxHeartbeats 4000000 in
set_option maxRecDepth 100000 in
theorem r7Plan_ok {f : Flr} {n : Nat} {M : MpC} {Vs : List SlC} {br : Nat} {T : Int → List (Int × Int)} {w : World} (h : MpW f n M Vs w) (hn : n ≤ 1000) (hR : RefW w br T) (hT : WFT T) (fr : Nat) (s0 tg : Int) (A : Nat) (hA : A ≤ 1024) (hok : spOk f fr s0 = true) :
    Calls Tryd.prog 21 #[M.val n, .pointer (some ⟨br, 0, none⟩), .int .i64 (fr : Int), .int .i64 s0, .int .i64 tg, .int .i64 (A : Int)] w (PlR (planR f T fr s0 tg A) w) := by
  obtain ⟨P, hP⟩ : ∃ P, P = planR f T fr s0 tg A := ⟨_, rfl⟩
  rw [← hP]
  have HP := Lib.hid hP
  have HOK := Lib.hid hok
  have hpt : ptOk f fr = true := by unfold spOk at hok; simp only [Bool.and_eq_true] at hok; exact hok.1.1
  have hs : 0 ≤ s0 ∧ s0 < 1048576 := by
    unfold spOk at hok; simp only [Bool.and_eq_true, decide_eq_true_eq] at hok; exact ⟨hok.1.2, hok.2⟩
  obtain ⟨hs0, hs1⟩ := hs
  obtain ⟨k0, hk0, hkn, hr⟩ := ptOk_nat hpt
  obtain rfl : fr = k0 := by omega
  have hnf : n = f.s.size := by rw [h.hn]; unfold mpN; rw [if_pos (rightB_iff.2 hr)]
  have HNF := Lib.hid hnf; have HRT := Lib.hid hr
  have HFN := Lib.hid (show fr < n by omega)
  obtain ⟨w1, hw1⟩ : ∃ w1, w1 = w.alloc (.cells #[.slice M.A1 n M.q1, .slice M.A2 n M.q2, .slice M.A3 n M.q3] 36) := ⟨_, rfl⟩
  have K1 := Lib.hid (show Kp No w w1 by rw [hw1]; exact (Kp.refl _ _).alloc _)
  have BX := Lib.hid (show w1.heap[w.heap.size]? = some (.cells #[.slice M.A1 n M.q1, .slice M.A2 n M.q2, .slice M.A3 n M.q3] 36 (0, 0)) by rw [hw1]; exact blk_new w _)
  have HW1 := Lib.hid hw1
  clear hw1
  have lb : ∀ wx, Kp No w1 wx → wx.cell? ⟨w.heap.size, 0, none⟩ = some (.slice M.A1 n M.q1) ∧ wx.cell? ⟨w.heap.size, 1, none⟩ = some (.slice M.A2 n M.q2) ∧ wx.cell? ⟨w.heap.size, 2, none⟩ = some (.slice M.A3 n M.q3) := fun wx hk => by
    have := hk.blk BX.out (no_no _)
    exact ⟨blk_cell this 0, blk_cell this 1, blk_cell this 2⟩
  have LB := Lib.hid lb
  clear lb
  have RO := Lib.hid (reach_ok (h.no K1.out) hn (hR.no K1.out) hT fr s0 A hA hok)
  have MW := Lib.hid (h.no K1.out)
  have RW := Lib.hid (hR.no K1.out)
  have HT := Lib.hid hT
  obtain ⟨st, hst⟩ : ∃ st, st = stepsP f fr [] := ⟨_, rfl⟩
  rw [← hst] at RO
  have HST := Lib.hid hst
  have RLT := Lib.hid (show ∀ (m c : Nat), Rch T st fr s0 m c → c < n from fun m => by
    induction m with
    | zero => intro c hc; have hc : c = fr := hc; rw [hc]; omega
    | succ m ih =>
      rintro c ⟨_, hc | ⟨u, hu, hcu⟩⟩
      · exact ih c hc
      · rw [hst] at hcu; rw [hnf]; exact steps_sz hr (by rw [← hnf]; exact ih u hu) hcu)
  have FLP := Lib.hid (show Flp T st (fun c => nearP f c) fr s0 (okF f fr) by rw [hst]; exact flp_floor hr (ptOk_ne1 hpt) (fun m c hc => by have := RLT.out m c (by rw [hst]; exact hc); omega))
  obtain ⟨hb0, hb1, hb2⟩ := LB.out w1 (Kp.refl _ _)
  obtain ⟨g3, o3, hA3⟩ := h.op.some_ (by omega)
  have hop := (h.no K1.out).op
  rw [hA3] at hop
  obtain ⟨g2, o2, hA2⟩ := h.ln.some_ (by omega)
  have hln := (h.no K1.out).ln
  rw [hA2] at hln
  obtain ⟨g1, o1, hA1⟩ := h.nr.some_ (by omega)
  have hnr := (h.no K1.out).nr
  rw [hA1] at hnr
  have HOP := Lib.hid (fun wx (hk : Kp No w1 wx) (i : Nat) (hi : i < n) => show wx.cell? ⟨g3, o3 + i, none⟩ = some (.bool (bt f.s i != 35)) from (hop.kpNo hk).one BoK1 (opL_get hi))
  have HLN := Lib.hid (fun wx (hk : Kp No w1 wx) (i : Nat) (hi : i < n) => show wx.cell? ⟨g2, o2 + i, none⟩ = some (.bool (decide (kdS f.s i = 2))) from by
    have h1 := (hln.kpNo hk).one BoK1 (lnB_get (f := f) (k := n) hi)
    rw [h1]
    congr 2
    rw [decide_eq_decide]
    exact ⟨fun a => a.2, fun a => ⟨hi, a⟩⟩)
  have HNR := Lib.hid (fun (i : Nat) (hi : i < n) => show ∃ An qn, (∀ wx, Kp No w1 wx → wx.cell? ⟨g1, o1 + i, none⟩ = some (.slice An (nearP f i).length qn)) ∧ Rd IK w1 (.slice An (nearP f i).length qn) (ints (nearP f i)) from by
    have MW := h.no K1.out
    obtain ⟨⟨An, m, qn⟩, hv⟩ : ∃ v, Vs[i]? = some v := ⟨_, List.getElem?_eq_getElem (by rw [h.len]; exact hi)⟩
    have hrd := MW.rd i _ hv
    unfold slv at hrd
    simp only at hrd
    obtain ⟨A', q', hsh⟩ := hrd.shape
    simp only [Value.slice.injEq] at hsh
    obtain ⟨rfl, hm, rfl⟩ := hsh
    rw [ints_len] at hm
    rw [hm] at hrd
    refine ⟨An, qn, fun wx hk => ?_, hrd⟩
    have := (hnr.kpNo hk).one SvK1 hv
    rw [this]; unfold slv; rw [hm])
  obtain ⟨A1, q1, A2, q2, A3, q3⟩ := M
  unfold MpC.val at RO ⊢
  simp only at hb0 hb1 hb2 RO LB HW1 hA1 hA2 hA3 ⊢
  subst hA1 hA2 hA3
  clear hok h hR hT BX hst hP hpt hk0 hkn hr hnf hop hln hnr
  go_enter Tryd.func21, Tryd.ntmps21
  go_upto_region 1 with fail
  rw [← HW1.out]
  go_wp2_with fail
  refine RO.out.mono ?_
  rintro e w2 ⟨av, Ls, rfl, lv⟩
  have hll := lv.len
  rcases lv.own.b with ⟨hv, he⟩ | ⟨ga, qa, hv, _, _, _⟩
  · rw [he] at hll; simp at hll
  rw [hll] at hv
  subst hv
  have LV := Lib.hid lv
  have GC := Lib.hid (fun wx (hk : Kp No w2 wx) (i : Nat) (hi : i ≤ A) => show ∃ g, wx.cell? ⟨ga, i, none⟩ = some (.slice (some ⟨g, 0, none⟩) n n) ∧ Blk Value.bool 4 wx g (lvB n (Rch T st fr s0 i)) from by
    have L2 := LV.out.no hk
    obtain ⟨x, hx⟩ : ∃ x, Ls[i]? = some x := ⟨_, List.getElem?_eq_getElem (by rw [L2.len]; omega)⟩
    obtain ⟨g, e, b, _, _⟩ := L2.lv i x hx
    refine ⟨g, ?_, b⟩
    have := L2.own.rd.one SvK1 hx
    rw [Nat.zero_add] at this
    rw [this, e]; rfl)
  have K2 := Lib.hid lv.kp
  have K02 := Lib.hid (K1.out.no lv.kp)
  clear hb0 hb1 hb2 lv hll RO
  obtain ⟨hb0, hb1, hb2⟩ := LB.out w2 K2.out
  have hne : (((A + 1 : Nat) : Int) == 0) = false := by simp; omega
  obtain ⟨a1, ha1⟩ : ∃ a, a = A + 1 := ⟨_, rfl⟩
  rw [← ha1] at hne ⊢
  have HA1 := Lib.hid ha1
  clear ha1
  by_cases h0 : tg < 0
  · have HE := Lib.hid (show P = ([], 1) by rw [HP.out]; unfold planR; rw [if_neg]; rintro ⟨_, _, h⟩; unfold opQ at h; simp at h; omega)
    go_wp2_with fail
    go_ret2
    exact plR_nil HE.out K02.out
  by_cases h1 : (n : Int) ≤ tg
  · have HE := Lib.hid (show P = ([], 1) by rw [HP.out]; unfold planR; rw [if_neg]; rintro ⟨_, _, h⟩; unfold opQ at h; simp only [Bool.and_eq_true, decide_eq_true_eq] at h; have := HNF.out; omega)
    go_wp2_with fail
    go_ret2
    exact plR_nil HE.out K02.out
  obtain ⟨c, rfl⟩ : ∃ c : Nat, tg = c := ⟨tg.toNat, by omega⟩
  have hcn : c < n := by omega
  have hcI : (c : Int) < (n : Int) := by omega
  have hcop := HOP.out w2 K2.out c hcn
  obtain ⟨ob, hob⟩ : ∃ b, (bt f.s c != 35) = b := ⟨_, rfl⟩
  rw [hob] at hcop
  have HOB := Lib.hid hob
  clear hob
  cases ob with
  | false =>
    have HE := Lib.hid (show P = ([], 1) by rw [HP.out]; unfold planR; rw [if_neg]; rintro ⟨_, _, h⟩; unfold opQ at h; rw [Int.toNat_natCast, HOB.out] at h; simp at h)
    go_wp2_with fail
    go_ret2
    exact plR_nil HE.out K02.out
  | true =>
    have HOQ := Lib.hid (show opQ f (c : Int) = true by unfold opQ; rw [Int.toNat_natCast, HOB.out]; have := HNF.out; simp; omega)
    by_cases hck : c = fr
    · subst hck
      have HE := Lib.hid (show P = ([], 0) by rw [HP.out]; unfold planR; rw [if_pos ⟨HOK.out, by simp; omega, HOQ.out⟩, if_pos rfl])
      go_wp2_with fail
      go_ret2
      exact plR_nil HE.out K02.out
    have hckI : ((c : Int) == (fr : Int)) = false := by simp; omega
    have HCK := Lib.hid hck
    have HCN := Lib.hid hcn
    clear hck h0 h1 hcn
    go_wp2_with fail
    go_loopg [15] (A + 2) (fun g_ nv wx => ∃ k : Nat, g_ = A + 2 - k ∧ nv = .int .i64 (k : Int) ∧ k ≤ A + 1 ∧ (∀ j, j < k → ¬ Rch T st fr s0 j c) ∧ Kp No w2 wx)
    case atStart => exact ⟨0, rfl, rfl, by omega, fun j hj => by omega, Kp.refl _ _⟩
    case round =>
      obtain ⟨k, hg, rfl, hk, hno, kp⟩ := hrel
      have NO := Lib.hid hno; have KP := Lib.hid kp
      clear hno kp hb0 hb1 hb2 hcop
      by_cases hkA : k ≤ A
      · have hkI : (k : Int) < (a1 : Int) := by have := HA1.out; omega
        have hwk : IntKind.i64.wrap ((k : Int) + 1) = (k : Int) + 1 := IntWalk.i64_in _ (by omega)
        obtain ⟨g, hcg, hbk⟩ := GC.out wr KP.out k hkA
        obtain ⟨b, hb⟩ : ∃ b, (lvB n (Rch T st fr s0 k))[c]? = some b := ⟨_, lvB_get HCN.out⟩
        have hcb := hbk.get hb
        have HB := Lib.hid (lvB_iff hb).2
        clear hb hbk
        cases b with
        | false =>
          go_wp2_with fail
          go_roundg (A + 2 - (k + 1))
          case measure => omega
          case rel => exact ⟨k + 1, rfl, by go_num, by omega, (fun j hj => by
            rcases Nat.lt_or_ge j k with h | h
            · exact NO.out j h
            · obtain rfl : j = k := by omega
              exact (fun e => by have := HB.out.2 e; cases this)), KP.out⟩
        | true =>
          have HRK := Lib.hid (show Rch T st fr s0 k c by first | exact HB.out.1 trivial | exact HB.out.1 rfl)
          have HE := Lib.hid (show P = (plF f T fr s0 k c, 0) by
            rw [HP.out]
            exact planR_at HOK.out hA HOQ.out HCK.out hs0 hkA (by rw [← HST.out]; exact HRK.out) (by rw [← HST.out]; exact NO.out))
          have hka : ((k : Int) == (a1 : Int)) = false := by simp; omega
          have HKA := Lib.hid hkA
          clear hkA
          go_wp2_with fail
          obtain ⟨w3, hw3⟩ : ∃ y : World, y = wr := ⟨_, rfl⟩
          rw [← hw3] at KP ⊢
          have K3 := Lib.hid KP.out
          have K03 := Lib.hid (K02.out.no KP.out)
          clear hw3 KP
          obtain ⟨kk, hkk⟩ : ∃ z, z = k := ⟨_, rfl⟩
          rw [← hkk] at HE HRK HKA
          have HKK := Lib.hid hkk
          obtain ⟨gO, hgO⟩ : ∃ z, z = gk := ⟨_, rfl⟩
          clear hcg hcb
          go_loopg [15, 16, 17] (kk + 1) (fun g_ nv ov av wx => ∃ (m a : Nat) (L : List (Int × Int)), g_ = m + 1 ∧ nv = .int .i64 (m : Int) ∧ av = .int .i64 (a : Int) ∧ m ≤ kk ∧ Rch T st fr s0 m a ∧ NewS TK 58 w3 wx ov L ∧ plF f T fr s0 kk c = plF f T fr s0 m a ++ L ∧ L.length + m ≤ kk)
          case atStart => exact ⟨kk, c, [], rfl, by rw [HKK.out], rfl, Nat.le_refl _, HRK.out, NewS.nil TK 58 w3, by simp, by simp⟩
          case round =>
            obtain ⟨m0, a, L, hgm, rfl, rfl, hm0, rc, ns, ple, hlb⟩ := hrel
            have RC0 := Lib.hid rc; have NS := Lib.hid ns; have PLE0 := Lib.hid ple; have HLB0 := Lib.hid hlb
            have HM0 := Lib.hid hm0
            clear rc ns ple hlb hm0
            obtain ⟨nw, hnw⟩ : ∃ z : Int, z = (m0 : Int) := ⟨_, rfl⟩
            rw [← hnw]
            have HNW := Lib.hid hnw
            clear hnw
            have K3R := Lib.hid (K3.out.no NS.out.kp)
            obtain ⟨stop, hstop⟩ : ∃ b, b = (decide (a = fr) && wtB (T (fr : Int)) s0 m0) := ⟨_, rfl⟩
            have HSTOP := Lib.hid hstop
            clear hstop
            go_upto_region 13 with fail
            go_cut [73, 74, 75, 76, 77, 78, 79, 80, 81, 82, 83] (fun _ _ _ _ _ _ _ _ _ _ v83 wx => v83 = .bool (!stop) ∧ Kp No wr wx)
            case first =>
              by_cases hafr : a = fr
              · have dA : ((a : Int) == (fr : Int)) = true := by simp; omega
                obtain ⟨r, hr⟩ : ∃ r, wtB (T (fr : Int)) s0 m0 = r := ⟨_, rfl⟩
                have WT := Lib.hid (waits_any (RW.out.no (K2.out.no K3R.out)) HT.out (fr : Int) s0 ⟨hs0, hs1⟩ m0 (by have := HM0.out; have := HKA.out; omega) r hr)
                rw [← HNW.out] at WT
                have HS := Lib.hid (show stop = r by rw [HSTOP.out, hr, hafr]; simp)
                clear hafr hr
                go_wp2_with fail
                refine WT.out.mono ?_
                rintro e w4 ⟨rfl, k4⟩
                have K4 := Lib.hid k4
                clear k4
                go_wp2_with fail
                go_meet
                exact ⟨by rw [HS.out], K4.out⟩
              · have dA : ((a : Int) == (fr : Int)) = false := by simp; omega
                have HS := Lib.hid (show stop = false by rw [HSTOP.out]; simp [hafr])
                clear hafr
                go_wp2_with fail
                go_meet
                exact ⟨by rw [HS.out]; rfl, Kp.refl _ _⟩
            case rest =>
              obtain ⟨rfl, k4⟩ := hcut
              obtain ⟨w4, hw4⟩ : ∃ y : World, y = wc := ⟨_, rfl⟩
              rw [← hw4] at k4 ⊢
              have NS4 := Lib.hid (NS.out.kpNo k4)
              have K34 := Lib.hid (K3R.out.no k4)
              clear hw4 k4
              cases stop with
              | true =>
                have hs := HSTOP.out.symm
                simp only [Bool.and_eq_true, decide_eq_true_eq] at hs
                have HEQ := Lib.hid (show plF f T fr s0 kk c = L by
                  rw [PLE0.out, hs.1]; unfold plF
                  rw [plP_stop ((wtB_iff HT.out m0).1 hs.2)]; rfl)
                obtain ⟨lo, hlo⟩ : ∃ l, l = L.length := ⟨_, rfl⟩
                obtain ⟨Ao, qo, hov⟩ := NS4.out.own.rd.shape
                rw [← hlo] at hov
                subst hov
                have HLO := Lib.hid hlo
                clear hs hlo
                go_wp2_with fail
                go_ret2
                refine ⟨Ao, qo, by rw [HE.out]; simp only; rw [HEQ.out, ← HLO.out]; rfl, ?_⟩
                rw [HE.out]
                simp only
                rw [HEQ.out, ← HLO.out]
                exact ⟨NS4.out.own, fun g hg => by have := NS4.out.ge g hg; have := K03.out.size; omega, K03.out.no NS4.out.kp⟩
              | false =>
                obtain ⟨m, rfl⟩ : ∃ m, m0 = m + 1 := by
                  rcases m0 with _ | m
                  · exfalso
                    have h1 : a = fr := RC0.out
                    have := HSTOP.out
                    rw [h1] at this
                    simp [wtB] at this
                  · exact ⟨m, rfl⟩
                have NST := Lib.hid (show ¬ (a = fr ∧ s0 + ((m + 1 : Nat) : Int) < to0 T fr s0) from by
                  rintro ⟨h1, h2⟩
                  have h3 := HSTOP.out
                  rw [h1, (wtB_iff HT.out (m + 1)).2 h2] at h3
                  simp at h3)
                have HAN := Lib.hid (RLT.out _ a RC0.out)
                obtain ⟨An, qn, hncell, hnrd⟩ := HNR.out a HAN.out
                obtain ⟨NL, hNL⟩ : ∃ l, l = nearP f a := ⟨_, rfl⟩
                rw [← hNL] at hncell hnrd
                obtain ⟨ln0, hln0⟩ : ∃ z, z = NL.length := ⟨_, rfl⟩
                rw [← hln0] at hncell hnrd
                have hl4 : ln0 ≤ 4 := by rw [hln0, hNL]; exact near_len4 _ _
                have HNL := Lib.hid hNL; have HLN0 := Lib.hid hln0
                have hnc := hncell w4 (K2.out.no K34.out)
                have RN := Lib.hid (hnrd.kpNo (K2.out.no K34.out))
                obtain ⟨hb0, hb1, hb2⟩ := LB.out w4 (K2.out.no K34.out)
                have haI : (a : Int) < (n : Int) := by have := HAN.out; omega
                have hwl : IntKind.i64.wrap ((ln0 : Int) - 1) = (ln0 : Int) - 1 := IntWalk.i64_in _ (by omega)
                clear hNL hln0 hncell hnrd
                go_wp2_with fail
                obtain ⟨p, hp⟩ : ∃ p : Nat → Bool, p = fun x => (lvB n (Rch T st fr s0 m)).getD x false && okF f fr x := ⟨_, rfl⟩
                have HPP := Lib.hid hp
                clear hp
                obtain ⟨wB, hwB⟩ : ∃ y : World, y = w4 := ⟨_, rfl⟩
                rw [← hwB] at NS4 K34 RN
                have WB := Lib.hid (show Kp No wB w4 by rw [hwB]; exact Kp.refl _ _)
                clear hwB hb0 hb1 hb2 hnc
                obtain ⟨gP, hgP⟩ : ∃ z, z = gk := ⟨_, rfl⟩
                go_loopg [18, 20] (ln0 + 1) (fun g_ pv iv wx => ∃ j : Nat, g_ = j + 1 ∧ iv = .int .i64 ((j : Int) - 1) ∧ j ≤ ln0 ∧ pv = .int .i64 (optI ((NL.drop j).find? p)) ∧ Kp No wB wx)
                case atStart => exact ⟨ln0, rfl, rfl, Nat.le_refl _, by rw [HLN0.out, List.drop_length]; rfl, WB.out⟩
                case round =>
                  clear WB
                  obtain ⟨j, hgj, rfl, hj, rfl, kj⟩ := hrel
                  have KJ := Lib.hid kj
                  clear kj
                  by_cases hj0 : j = 0
                  · subst hj0
                    have hd0 : ¬ ((0 : Nat) : Int) - 1 ≥ 0 := by omega
                    obtain ⟨r, hr⟩ : ∃ r, NL.find? p = r := ⟨_, rfl⟩
                    rw [List.drop_zero, hr]
                    have HRR := Lib.hid (show cmP T st (fun c => nearP f c) fr s0 (okF f fr) m a = r from by
                      rw [← find_cm (p := p) (a := a) ?_]
                      · rw [← hr, HNL.out]
                      · intro x hx
                        have hxn : x < n := by rw [HNF.out]; exact near_sz HRT.out (by rw [← HNF.out]; exact HAN.out) hx
                        rw [HPP.out]
                        simp only
                        rw [List.getD_eq_getElem?_getD, lvB_get hxn, Option.getD_some])
                    have NS5 := Lib.hid (NS4.out.kpNo KJ.out)
                    have hwn : IntKind.i64.wrap (nw - 1) = (m : Int) := by rw [HNW.out, IntWalk.i64_in _ (by have := HM0.out; have := HKA.out; omega)]; omega
                    clear hr
                    cases r with
                    | none =>
                      have RC2 := Lib.hid (rch_stay FLP.out RC0.out HRR.out)
                      have PL2 := Lib.hid (show plF f T fr s0 kk c = plF f T fr s0 m a ++ L by
                        rw [PLE0.out]
                        unfold plF
                        rw [HST.out] at HRR
                        rw [plP_none NST.out HRR.out])
                      have hc0 : decide ((-1 : Int) ≥ 0) = false := by simp
                      unfold optI
                      simp only
                      go_wp2_with fail
                      go_roundg (m + 1)
                      case measure => omega
                      case rel => exact ⟨m, a, L, rfl, rfl, rfl, by have := HM0.out; omega, RC2.out, NS5.out, PL2.out, by have := HLB0.out; omega⟩
                    | some c2 =>
                      have RC2 := Lib.hid (cmP_some HRR.out).2.2
                      have PL2 := Lib.hid (show plF f T fr s0 kk c = plF f T fr s0 m c2 ++ ([((a : Int), s0 + ((m + 1 : Nat) : Int))] ++ L) by
                        rw [PLE0.out]
                        unfold plF
                        rw [HST.out] at HRR
                        rw [plP_some NST.out HRR.out, List.append_assoc])
                      obtain ⟨tm, htm⟩ : ∃ z : Int, z = s0 + ((m + 1 : Nat) : Int) := ⟨_, rfl⟩
                      rw [← htm] at PL2
                      have hws : IntKind.i64.wrap (s0 + (m : Int)) = s0 + (m : Int) := IntWalk.i64_in _ (by have := HM0.out; have := HKA.out; omega)
                      have hwt : IntKind.i64.wrap (s0 + (m : Int) + 1) = tm := by rw [IntWalk.i64_in _ (by have := HM0.out; have := HKA.out; omega)]; omega
                      have hc0 : decide ((c2 : Int) ≥ 0) = true := by simp
                      obtain ⟨lo, hlo⟩ : ∃ l, l = L.length := ⟨_, rfl⟩
                      obtain ⟨Ao, qo, hov⟩ := NS5.out.own.rd.shape
                      rw [← hlo] at hov
                      subst hov
                      have HLO := Lib.hid hlo
                      have hlob : lo ≤ 1024 := by have := HLB0.out; have := HKA.out; omega
                      have HTM := Lib.hid htm
                      clear hlo htm
                      unfold optI
                      simp only
                      go_wp2_with (at_builtin; refine wpl_append elT rfl (.tmp 139) (.tmp 140) rfl rfl rfl (v := .slice (some ⟨wr.heap.size, 0, none⟩) 1 1) (l := [((a : Int), tm)]) (m := L) ?c1 ?c2 ?c3 ?c4 ?c5)
                      case c1 => exact Own.lit TK 58 wr _ [((a : Int), tm)] rfl (by unfold maxLen; simp)
                      case c2 => exact NS5.out.own.rd.alloc _
                      case c3 => unfold maxLen; have := HLO.out; first | omega | (rw [List.length_singleton]; omega)
                      case c4 => have := HLO.out; first | omega | (rw [List.length_singleton]; omega)
                      case c5 =>
                        intro v' w' k1 k2 k3
                        have N6 := Lib.hid (show NewS TK 58 w3 w' v' ([((a : Int), tm)] ++ L) from ⟨k1, fun g hg => by
                          have h1 := NS5.out.kp.size
                          rcases k3 g hg with e | e
                          · simp only [Value.ownBlock, Option.some.injEq] at e; omega
                          · have := ((Kp.refl No wr).alloc (.cells #[.int .i64 (a : Int), .int .i64 tm] 58)).size; omega, (NS5.out.kp.alloc _).trans' k2 fun j hj e => by
                          have h1 := NS5.out.kp.size
                          simp only [Value.ownBlock, Option.some.injEq] at e; omega⟩)
                        clear k1 k2 k3
                        go_wp2_with fail
                        go_roundg (m + 1)
                        case measure => omega
                        case rel => exact ⟨m, c2, _, rfl, rfl, rfl, by have := HM0.out; omega, RC2.out, N6.out, PL2.out, by rw [List.length_append, List.length_singleton]; have := HLB0.out; omega⟩
                  · obtain ⟨i, rfl⟩ : ∃ i, j = i + 1 := ⟨j - 1, by omega⟩
                    have hd0 : (i : Int) ≥ 0 := by omega
                    rw [show ((i + 1 : Nat) : Int) - 1 = (i : Int) by omega]
                    have hiL : (i : Int) < (ln0 : Int) := by omega
                    obtain ⟨x, hx⟩ : ∃ x, NL[i]? = some x := ⟨_, List.getElem?_eq_getElem (by rw [← HLN0.out]; omega)⟩
                    rcases (RN.out.kpNo KJ.out) with ⟨_, he⟩ | ⟨g, o, cap', hv, _⟩
                    · have := congrArg List.length he; rw [ints_len, ← HLN0.out] at this; simp at this; omega
                    simp only [Value.slice.injEq] at hv
                    obtain ⟨rfl, hzz, rfl⟩ := hv
                    have hcx : wr.cell? ⟨g, o + i, none⟩ = some (.int .i64 (x : Int)) := (RN.out.kpNo KJ.out).intAt (ints_get hx)
                    have hxn : x < n := by rw [HNF.out]; exact near_sz HRT.out (by rw [← HNF.out]; exact HAN.out) (by rw [← HNL.out]; exact List.mem_of_getElem? hx)
                    have hxI : (x : Int) < (n : Int) := by omega
                    have KW := Lib.hid (K34.out.no KJ.out)
                    obtain ⟨gl, hlg, hbk⟩ := GC.out wr (KW.out) m (by have := HM0.out; have := HKA.out; omega)
                    obtain ⟨b1, hb1v⟩ : ∃ b, (lvB n (Rch T st fr s0 m))[x]? = some b := ⟨_, lvB_get hxn⟩
                    have hlc := hbk.get hb1v
                    obtain ⟨b2, hb2v⟩ : ∃ b, decide (kdS f.s x = 2) = b := ⟨_, rfl⟩
                    have hlane := HLN.out wr (K2.out.no (KW.out)) x hxn
                    rw [hb2v] at hlane
                    obtain ⟨b3, hb3v⟩ : ∃ b, ((x : Int) == (fr : Int)) = b := ⟨_, rfl⟩
                    have hmA : (m : Int) < (a1 : Int) := by have := HM0.out; have := HKA.out; have := HA1.out; omega
                    have hwn : IntKind.i64.wrap (nw - 1) = (m : Int) := by rw [HNW.out, IntWalk.i64_in _ (by have := HM0.out; have := HKA.out; omega)]; omega
                    have hwd : IntKind.i64.wrap ((i : Int) - 1) = (i : Int) - 1 := IntWalk.i64_in _ (by omega)
                    have HX := Lib.hid hx
                    have HPX := Lib.hid (show p x = (b1 && (b2 || b3)) by
                      rw [HPP.out]
                      simp only
                      rw [List.getD_eq_getElem?_getD, hb1v, Option.getD_some]
                      unfold okF
                      rw [hb2v, ← hb3v]
                      congr 2
                      by_cases e : x = fr
                      · simp [e]
                      · have : ((x : Int) == (fr : Int)) = false := by simp; omega
                        rw [this]; simp [e])
                    have HDR := Lib.hid (drop_find (p := p) hx)
                    obtain ⟨hb0, hb1, hb2⟩ := LB.out wr (K2.out.no (KW.out))
                    obtain ⟨px, hpx⟩ : ∃ b, b = p x := ⟨_, rfl⟩
                    have HPXX := Lib.hid hpx
                    clear hzz hx hb1v hb2v hbk hxn hpx hj0
                    go_upto_region 19 with fail
                    go_cut [96, 97, 98, 99, 100, 101, 102, 103, 104, 105, 106, 107, 108, 109, 110, 111, 112, 113, 114, 115, 116, 117, 118, 119, 120, 121, 122, 123, 124] (fun _ _ _ _ _ _ _ _ _ _ _ _ _ _ _ _ _ _ _ _ _ _ _ _ _ _ _ _ v124 wx => v124 = .bool px ∧ Kp No wr wx)
                    case first =>
                      have hcs : (b1 = false) ∨ (b1 = true ∧ b2 = true) ∨ (b1 = true ∧ b2 = false) := by cases b1 <;> cases b2 <;> simp
                      rcases hcs with rfl | ⟨rfl, rfl⟩ | ⟨rfl, rfl⟩
                      all_goals
                        go_quiet (fail)
                        go_wp2_with fail
                        go_meet
                        exact ⟨by rw [HPXX.out, HPX.out]; rfl, (Kp.refl No _).drewN _⟩
                    case rest =>
                      obtain ⟨rfl, k5⟩ := hcut
                      obtain ⟨w5, hw5⟩ : ∃ y : World, y = wc := ⟨_, rfl⟩
                      rw [← hw5] at k5 ⊢
                      have K5 := Lib.hid (KJ.out.no k5)
                      have hcx5 : w5.cell? ⟨g, o + i, none⟩ = some (.int .i64 (x : Int)) := (RN.out.kpNo (KJ.out.no k5)).intAt (ints_get HX.out)
                      clear hw5 k5 hb0 hb1 hb2 hlane hlc hlg hcx
                      cases px with
                      | true =>
                        have HD := Lib.hid (show (NL.drop i).find? p = some x by rw [HDR.out, ← HPXX.out]; rfl)
                        go_wp2_with fail
                        go_roundg (i + 1)
                        case measure => omega
                        case rel => exact ⟨i, rfl, rfl, by omega, by rw [HD.out]; rfl, K5.out⟩
                      | false =>
                        have HD := Lib.hid (show (NL.drop i).find? p = (NL.drop (i + 1)).find? p by rw [HDR.out, ← HPXX.out]; rfl)
                        go_wp2_with fail
                        go_roundg (i + 1)
                        case measure => omega
                        case rel => exact ⟨i, rfl, rfl, by omega, by rw [HD.out], K5.out⟩
      · have hkE : k = A + 1 := by omega
        have hka : ((k : Int) == (a1 : Int)) = true := by have := HA1.out; simp; omega
        have hkI : ¬ (k : Int) < (a1 : Int) := by have := HA1.out; omega
        have HE := Lib.hid (show P = ([], 2) by rw [HP.out]; exact planR_none HOK.out hA HOQ.out HCK.out (by rw [← HST.out, ← hkE]; exact NO.out))
        clear hkE hkA
        go_wp2_with fail
        go_ret2
        exact plR_nil HE.out (K02.out.no KP.out)
end Go.Proofs.YtgdokpfepfmbmaaDoor

namespace Go.Proofs.YtgdokpfepfmbmaaDoor
set_option linter.unusedVariables false
set_option linter.unusedSimpArgs false
open Go.RowKit

theorem r7Plan_any {f : Flr} {n : Nat} {M : MpC} {Vs : List SlC} {br : Nat} {T : Int → List (Int × Int)} {w : World} (h : MpW f n M Vs w) (hR : RefW w br T) (hT : WFT T) (fr s0 tg ah : Int) :
    Calls Tryd.prog 21 #[M.val n, .pointer (some ⟨br, 0, none⟩), .int .i64 fr, .int .i64 s0, .int .i64 tg, .int .i64 ah] w (PlR (planR f T fr s0 tg ah) w) := by
  have hn : n ≤ 1000 := by
    rw [h.hn]; unfold mpN
    split
    · rename_i hr; have := (rightB_iff.1 hr).s256; omega
    · omega
  by_cases hc : spOk f fr s0 = true ∧ 0 ≤ ah ∧ ah ≤ 1024
  · obtain ⟨hok, h0, h1⟩ := hc
    have hpt : ptOk f fr = true := by unfold spOk at hok; simp only [Bool.and_eq_true] at hok; exact hok.1.1
    obtain ⟨k, rfl, _, hr⟩ := ptOk_nat hpt
    obtain ⟨A, rfl⟩ : ∃ A : Nat, ah = A := ⟨ah.toNat, by omega⟩
    exact r7Plan_ok h hn hR hT k s0 tg A (by omega) hok
  · have e : planR f T fr s0 tg ah = ([], 1) := by
      unfold planR
      rw [if_neg]
      rintro ⟨a, b, _⟩
      simp only [Bool.and_eq_true, decide_eq_true_eq] at b
      exact hc ⟨a, b⟩
    rw [e]
    exact r7Plan_no h hn fr s0 tg ah hc
theorem case_cells {w1 wx : World} {bx : Nat} {a b c d e f g h : Value} (hb : w1.heap[bx]? = some (.cells #[a, b, c, d, e, f, g, h] 26 (0, 0))) (hk : Kp No w1 wx) :
    wx.cell? ⟨bx, 0, none⟩ = some a ∧ wx.cell? ⟨bx, 1, none⟩ = some b ∧ wx.cell? ⟨bx, 2, none⟩ = some c ∧ wx.cell? ⟨bx, 3, none⟩ = some d ∧ wx.cell? ⟨bx, 4, none⟩ = some e ∧ wx.cell? ⟨bx, 5, none⟩ = some f ∧ wx.cell? ⟨bx, 6, none⟩ = some g ∧ wx.cell? ⟨bx, 7, none⟩ = some h := by
  have h1 := hk.blk hb (no_no _)
  exact ⟨blk_cell h1 0, blk_cell h1 1, blk_cell h1 2, blk_cell h1 3, blk_cell h1 4, blk_cell h1 5, blk_cell h1 6, blk_cell h1 7⟩
set_option maxRecDepth 100000 in
theorem small07_any (f : Flr) (lv : Value) (fr tg s0 ah : Int) (hsz : f.s.size ≤ 9223372036854775807) (t : Bool) (ht : t = (decide (f.s.size ≤ 60) && (decide (ah ≤ 60) || decide (1024 < ah)))) (w : World) :
    Calls Tryd.prog 14 #[.agg #[.int .i64 f.W, .int .i64 f.H, .string f.s, lv, .int .i64 fr, .int .i64 tg, .int .i64 s0, .int .i64 ah]] w fun e w' => e = .returned (.bool t) ∧ Kp No w w' := by
  obtain ⟨X, Y, s⟩ := f
  simp only at ht hsz ⊢
  obtain ⟨w1, hw1⟩ : ∃ y : World, y = w.alloc (.cells #[.int .i64 X, .int .i64 Y, .string s, lv, .int .i64 fr, .int .i64 tg, .int .i64 s0, .int .i64 ah] 26) := ⟨_, rfl⟩
  have BX := Lib.hid (show w1.heap[w.heap.size]? = some (.cells #[.int .i64 X, .int .i64 Y, .string s, lv, .int .i64 fr, .int .i64 tg, .int .i64 s0, .int .i64 ah] 26 (0, 0)) by rw [hw1]; exact blk_new w _)
  have K1 := Lib.hid (show Kp No w w1 by rw [hw1]; exact (Kp.refl _ _).alloc _)
  have HW1 := Lib.hid hw1
  obtain ⟨c0, c1, c2, c3, c4, c5, c6, c7⟩ := case_cells BX.out (Kp.refl _ _)
  obtain ⟨n, hn⟩ : ∃ n, n = s.size := ⟨_, rfl⟩
  have hnI : ((s.size : Nat) : Int) = (n : Int) := by omega
  obtain ⟨d1, h1⟩ : ∃ d, decide ((n : Int) ≤ 60) = d := ⟨_, rfl⟩
  obtain ⟨d2, h2⟩ : ∃ d, decide (ah ≤ 60) = d := ⟨_, rfl⟩
  obtain ⟨d3, h3⟩ : ∃ d, decide (ah > 1024) = d := ⟨_, rfl⟩
  have HE := Lib.hid (show t = (d1 && (d2 || d3)) by
    rw [ht, h2, ← h3, ← h1, ← hn]
    congr 1
    rw [decide_eq_decide]; omega)
  clear hn hw1 ht hsz
  have hcs : d1 = false ∨ (d1 = true ∧ d2 = true) ∨ (d1 = true ∧ d2 = false) := by cases d1 <;> cases d2 <;> simp
  rcases hcs with rfl | ⟨rfl, rfl⟩ | ⟨rfl, rfl⟩
  all_goals
    go_enter Tryd.func14, Tryd.ntmps14
    go_upto_region 1 with fail
    rw [← HW1.out]
    go_wp2_with fail
    go_ret
    exact ⟨by rw [HE.out]; first | rfl | simp [h3], K1.out⟩
/-- What tables left, as the walks use it. -/
theorem AtJ.rep {w0 w wx : World} {bt br : Nat} {T : Int → List (Int × Int)} {R : List Rw} (h : AtJ w0 bt T br R w) (hk : Kp No w wx) : ∃ F, RepT wx bt T F := let ⟨F, _, t⟩ := h; ⟨F, t.t.kpNo hk⟩
theorem AtJ.rep2 {w0 w wx : World} {bt br : Nat} {T : Int → List (Int × Int)} {R : List Rw} (h : AtJ w0 bt T br R w) (hk : Kp No w wx) : ∃ F, RepT wx bt T F ∧ ∀ k, F k → w0.heap.size ≤ k := let ⟨F, _, t⟩ := h; ⟨F, t.t.kpNo hk, t.fo⟩
theorem AtJ.ref {w0 w wx : World} {bt br : Nat} {T : Int → List (Int × Int)} {R : List Rw} (h : AtJ w0 bt T br R w) (hR : ∀ c, flt R c = T c) (hl : R.length ≤ 60) (hk : Kp No w wx) : RefW wx br T := let ⟨_, V, t⟩ := h; ⟨R, V, t.r.kpNo hk, by omega, hR⟩
theorem tab60_free (L : List Rw) (c : Int) : (freeL (tabT (L.take 60) c)).length ≤ 61 := by
  have h1 := freeL_len (tabT (L.take 60) c)
  have h2 := tabT_len (L.take 60) c
  have h3 : (L.take 60).length ≤ 60 := by rw [List.length_take]; omega
  omega
end Go.Proofs.YtgdokpfepfmbmaaDoor

namespace Go.Proofs.YtgdokpfepfmbmaaDoor
set_option linter.unusedVariables false
set_option linter.unusedSimpArgs false
open Go.RowKit

set_option maxRecDepth 100000 in
theorem idxI_same {w : World} {v : Value} {l : List Int} (hv : Rd IK w v l) (x : Int) :
    Calls Tryd.prog 79 #[v, .int .i64 x] w fun e w' => ∃ i : Int, e = .returned (.int .i64 i) ∧ (0 ≤ i ↔ x ∈ l) ∧ w' = w := by
  have hl := hv.lenI
  obtain ⟨A, c, rfl⟩ := hv.shape
  obtain ⟨n, hn⟩ : ∃ n, n = l.length := ⟨_, rfl⟩
  rw [← hn] at hv hl ⊢
  have H := Lib.hid hv; have HN := Lib.hid hn
  unfold maxLen at hl
  clear hv hn
  go_enter Tryd.func79, Tryd.ntmps79
  go_wp2_with fail
  go_loopg [8] (n + 1) (fun g_ iv wx => ∃ i : Nat, g_ = n + 1 - i ∧ iv = .int .i64 i ∧ i ≤ n ∧ (∀ y ∈ l.take i, y ≠ x) ∧ wx = w)
  case atStart => exact ⟨0, rfl, rfl, by omega, by simp, rfl⟩
  case round =>
    obtain ⟨i, hg, rfl, hi, hno, rfl⟩ := hrel
    have NO := Lib.hid hno
    clear hno
    by_cases hlt : i < n
    · have hltI : (i : Int) < (n : Int) := by omega
      have hwi : IntKind.i64.wrap ((i : Int) + 1) = (i : Int) + 1 := IntWalk.i64_in _ (by omega)
      obtain ⟨y, hy⟩ : ∃ y, l[i]? = some y := ⟨_, List.getElem?_eq_getElem (by rw [← HN.out]; exact hlt)⟩
      rcases H.out with ⟨_, he⟩ | ⟨g, o, cap', hv, _⟩
      · have := HN.out; rw [he, List.length_nil] at this; omega
      simp only [Value.slice.injEq] at hv
      obtain ⟨rfl, hzz, rfl⟩ := hv
      clear hzz
      have hc := H.out.intAt hy
      have HY := Lib.hid hy
      clear hy hlt
      by_cases hxy : x = y
      · subst hxy
        go_wp2_with fail
        go_ret
        exact ⟨i, rfl, ⟨fun _ => List.mem_of_getElem? HY.out, fun _ => by omega⟩, rfl⟩
      · have hb : (x == y) = false := by simpa using hxy
        have NO2 := Lib.hid (show ∀ z ∈ l.take (i + 1), z ≠ x from fun z hz => by
          rw [List.take_add_one, HY.out] at hz
          rcases List.mem_append.1 hz with h | h
          · exact NO.out z h
          · simp at h; subst h; exact fun e => hxy e.symm)
        clear hxy
        go_wp2_with fail
        go_roundg (n + 1 - (i + 1))
        case measure => omega
        case rel => exact ⟨i + 1, rfl, by go_num, by omega, NO2.out, rfl⟩
    · obtain rfl : i = n := by omega
      have hd0 : ¬ (i : Int) < (i : Int) := by omega
      have NO2 := Lib.hid (show x ∉ l from fun h => by
        have := NO.out x (by rw [HN.out, List.take_length]; exact h)
        exact this rfl)
      clear hlt
      go_wp2_with fail
      go_ret
      exact ⟨-1, rfl, ⟨fun h => by omega, fun h => absurd h NO2.out⟩, rfl⟩
set_option maxRecDepth 100000 in
theorem conI_same {w : World} {v : Value} {l : List Int} (hv : Rd IK w v l) (x : Int) (b : Bool) (hb : b = decide (x ∈ l)) :
    Calls Tryd.prog 51 #[v, .int .i64 x] w fun e w' => e = .returned (.bool b) ∧ w' = w := by
  have HI := Lib.hid (idxI_same hv x)
  have HB := Lib.hid hb
  clear hv hb
  go_enter Tryd.func51, Tryd.ntmps51
  go_wp2_with fail
  refine HI.out.mono ?_
  rintro e w1 ⟨i, rfl, hi, hw⟩
  obtain rfl : w1 = w := hw
  have HE := Lib.hid (show decide (0 ≤ i) = b by rw [HB.out, decide_eq_decide]; exact hi)
  clear hi
  go_wp2_with fail
  go_ret
  exact ⟨by have := HE.out; simp at this ⊢; exact this, rfl⟩
end Go.Proofs.YtgdokpfepfmbmaaDoor

namespace Go.Proofs.YtgdokpfepfmbmaaDoor
set_option linter.unusedVariables false
set_option linter.unusedSimpArgs false
open Go.RowKit

section
variable {T : Int → List (Int × Int)} {st : Nat → List Nat}
theorem wyB_append : ∀ (l m : List (Int × Int)) (a : Nat) (now : Int), wyB T st a now (l ++ m) = (wyB T st a now l && wyB T st (endW a now l).1 (endW a now l).2 m) := by
  intro l
  induction l with
  | nil => intro m a now; show _ = (true && _); rw [Bool.true_and]; rfl
  | cons y l ih =>
    intro m a now
    rw [List.cons_append, wyB, ih, wyB, endW_cons]
    simp only [Bool.and_assoc]
theorem wyB_take {l : List (Int × Int)} {a : Nat} {now : Int} (k : Nat) (h : wyB T st a now l = true) : wyB T st a now (l.take k) = true := by
  rw [← List.take_append_drop k l, wyB_append, Bool.and_eq_true] at h
  exact h.1
/-- Is this step right, from a cell, behind a moment? -/
noncomputable def stB (T : Int → List (Int × Int)) (st : Nat → List Nat) (a : Nat) (now : Int) (x : Int × Int) : Bool := decide (now < x.2) && decide (x.2 < 1048576) && decide (x.1 ∈ ints (st a)) && frB T a now x.2 && isF (T x.1) x.2
theorem wyB_at {l : List (Int × Int)} {a : Nat} {now : Int} {k : Nat} {x : Int × Int} (hx : l[k]? = some x) : wyB T st a now (l.take (k + 1)) = (wyB T st a now (l.take k) && stB T st (endW a now (l.take k)).1 (endW a now (l.take k)).2 x) := by
  rw [List.take_add_one, hx]
  exact wyB_snoc _ _ _ _
theorem endW_at {l : List (Int × Int)} {a : Nat} {now : Int} {k : Nat} {x : Int × Int} (hx : l[k]? = some x) : endW a now (l.take (k + 1)) = (x.1.toNat, x.2) := by
  rw [List.take_add_one, hx]
  exact endW_snoc _ _ _ _
theorem wyB_no {l : List (Int × Int)} {a : Nat} {now : Int} {k : Nat} {x : Int × Int} (hx : l[k]? = some x) (h : stB T st (endW a now (l.take k)).1 (endW a now (l.take k)).2 x = false) : wyB T st a now l = false := by
  cases hw : wyB T st a now l with
  | false => rfl
  | true =>
    have := wyB_take (k + 1) hw
    rw [wyB_at hx, h, Bool.and_false] at this
    cases this
end
/-- What sipp.Is answers. -/
noncomputable def isR (f : Flr) (T : Int → List (Int × Int)) (fr s0 : Int) (l : List (Int × Int)) : Bool := if spOk f fr s0 = true then wyB T (stepsP f fr.toNat []) fr.toNat s0 l else false
set_option maxHeartbeats 4000000 in
set_option maxRecDepth 100000 in
theorem spIs_any (f : Flr) (hsz : f.s.size ≤ 60) {T : Int → List (Int × Int)} (hT : WFT T) (fr s0 : Int) (tb : Nat) {FT : Nat → Prop} {w : World} (hR : RepT w tb T FT) {lv : Value} {l : List (Int × Int)} (hL : Rd TK w lv l) (b : Bool) (hb : isR f T fr s0 l = b) :
    Calls Tryd.prog 26 #[f.val, .pointer (some ⟨tb, 0, none⟩), .int .i64 fr, .int .i64 s0, lv] w fun e w' => e = .returned (.bool b) ∧ Kp No w w' := by
  have HBX := Lib.hid (BxW.new f w)
  cases hok : spOk f fr s0 with
  | false =>
    have HO := Lib.hid (spof_no f (by omega) tb fr s0 hok)
    have HE := Lib.hid (show b = false by rw [← hb]; unfold isR; rw [hok]; simp)
    obtain ⟨X, Y, s⟩ := f
    unfold Flr.val at HO ⊢
    clear hb hok hsz hT hR hL
    go_enter Tryd.func26, Tryd.ntmps26
    go_wp2_with fail
    refine (HO.out _).mono ?_
    rintro e w1 ⟨rfl, k1⟩
    have K1 := Lib.hid (HBX.out.kp.no k1)
    clear k1
    go_wp2_with fail
    go_ret
    exact ⟨by rw [HE.out]; rfl, K1.out⟩
  | true =>
    have hok2 : ptOk f fr = true := by unfold spOk at hok; simp only [Bool.and_eq_true] at hok; exact hok.1.1
    obtain ⟨k, rfl, hk, hr⟩ := ptOk_nat hok2
    have HO := Lib.hid (spof_ok f (by omega) T hT k s0 tb (w := w.alloc (.cells #[.int .i64 f.W, .int .i64 f.H, .string f.s] 23)) (hR.kpNo ((Kp.refl _ _).alloc _)) hok)
    have HB := Lib.hid (show b = wyB T (stepsP f k []) k s0 l by rw [← hb]; unfold isR; rw [if_pos hok, Int.toNat_natCast])
    obtain ⟨n, hn⟩ : ∃ n, n = l.length := ⟨_, rfl⟩
    have hll := hL.lenI
    obtain ⟨AL, cL, rfl⟩ := hL.shape
    rw [← hn] at hL hll ⊢
    unfold maxLen at hll
    have HL := Lib.hid hL; have HN := Lib.hid hn
    obtain ⟨F, hF⟩ : ∃ F, F = f := ⟨_, rfl⟩
    have HF := Lib.hid hF
    rw [← hF] at HB hk hr
    have HKF := Lib.hid (show k < F.s.size ∧ F.s.size ≤ 60 from ⟨hk, by rw [hF]; exact hsz⟩)
    have HRT := Lib.hid hr
    obtain ⟨X, Y, s⟩ := f
    unfold Flr.val at HO ⊢
    clear hb hok hok2 hk hr hsz hF hR hn hL
    go_enter Tryd.func26, Tryd.ntmps26
    go_wp2_with fail
    refine HO.out.mono ?_
    rintro e w1 ⟨Z, zf, zT, zfr, zs, zb, rfl, cs, sv, k1, gp, gm, gb⟩
    have CS := Lib.hid cs; have SV := Lib.hid sv
    have HZ := Lib.hid (show Z.f = F ∧ Z.T = T ∧ Z.fr = k ∧ Z.s0 = s0 by exact ⟨by rw [zf, HF.out], zT, zfr, zs⟩)
    have HZN := Lib.hid (show Z.n = F.s.size by rw [cs.hn, zf, HF.out])
    have K1 := Lib.hid (HBX.out.kp.no k1)
    have HST := Lib.hid (show Z.st = stepsP F k [] by funext u; unfold SeP.st; rw [zf, zfr, HF.out])
    have HS0 := Lib.hid (show 0 ≤ s0 ∧ s0 < 1048576 by have := cs.s0; rw [zs] at this; exact this)
    have L1 := Lib.hid (HL.out.kpNo (HBX.out.kp.no k1))
    clear zf zT zfr zs zb cs sv k1 gp gm gb HL HO HBX
    obtain ⟨wA, hwA⟩ : ∃ y : World, y = w1 := ⟨_, rfl⟩
    rw [← hwA] at CS SV K1 L1 ⊢
    clear hwA
    go_wp2_with fail
    go_loopg [13, 14, 32] (n + 1) (fun g_ av nv iv wx => ∃ (i a : Nat) (now : Int), g_ = n + 1 - i ∧ iv = .int .i64 i ∧ i ≤ n ∧ av = .int .i64 (a : Int) ∧ nv = .int .i64 now ∧ endW k s0 (l.take i) = (a, now) ∧ wyB T (stepsP F k []) k s0 (l.take i) = true ∧ a < F.s.size ∧ 0 ≤ now ∧ now < 1048576 ∧ Kp No wA wx)
    case atStart => exact ⟨0, k, s0, rfl, rfl, by omega, rfl, rfl, rfl, rfl, HKF.out.1, HS0.out.1, HS0.out.2, Kp.refl _ _⟩
    case round =>
      obtain ⟨i, a, now, hg, rfl, hi, rfl, rfl, hen, hwy, ha, hn0, hn1, kp⟩ := hrel
      have EN := Lib.hid hen; have WY := Lib.hid hwy; have KP := Lib.hid kp; have HA := Lib.hid ha
      clear hen hwy kp ha
      by_cases hlt : i < n
      · have hltI : (i : Int) < (n : Int) := by omega
        have hwi : IntKind.i64.wrap ((i : Int) + 1) = (i : Int) + 1 := IntWalk.i64_in _ (by omega)
        obtain ⟨x, hx⟩ : ∃ x, l[i]? = some x := ⟨_, List.getElem?_eq_getElem (by rw [← HN.out]; exact hlt)⟩
        rcases (L1.out.kpNo KP.out) with ⟨_, he⟩ | ⟨g, o, cap', hv, _⟩
        · have := HN.out; rw [he, List.length_nil] at this; omega
        simp only [Value.slice.injEq] at hv
        obtain ⟨rfl, hzz, rfl⟩ := hv
        obtain ⟨hx1, hx2⟩ := (L1.out.kpNo KP.out).stpAt hx
        have HX := Lib.hid hx
        obtain ⟨w2, hw2⟩ : ∃ y : World, y = wr.alloc (.cells #[.int .i64 x.1, .int .i64 x.2] 58) := ⟨_, rfl⟩
        obtain ⟨bx, hbx⟩ : ∃ b, b = wr.heap.size := ⟨_, rfl⟩
        have BX := Lib.hid (show w2.heap[bx]? = some (.cells #[.int .i64 x.1, .int .i64 x.2] 58 (0, 0)) by rw [hw2, hbx]; exact blk_new wr _)
        have K2 := Lib.hid (show Kp No wA w2 by rw [hw2]; exact KP.out.alloc _)
        have HW2 := Lib.hid hw2; have HBXX := Lib.hid hbx
        clear hzz hx hlt hw2 hbx
        go_upto_region 8 with fail
        rw [← HW2.out, ← HBXX.out]
        have hb0 : w2.cell? ⟨bx, 0, none⟩ = some (.int .i64 x.1) := blk_cell BX.out 0
        have hb1 : w2.cell? ⟨bx, 1, none⟩ = some (.int .i64 x.2) := blk_cell BX.out 1
        clear hx1 hx2
        have C2 := CS.out.no K2.out
        have V2 := SV.out.no K2.out
        obtain ⟨gl, ol, el, hln⟩ := C2.lane (u := a) (by rw [HZN.out]; exact HA.out)
        obtain ⟨gn, on_, vn, en, hvn, hnc, hnr⟩ := C2.near (u := a) (by rw [HZN.out]; exact HA.out)
        obtain ⟨An, ln0, qn⟩ := vn
        unfold slv at hnc hnr
        rw [HZ.out.1] at hnr
        have c0 := V2.c0; have c1 := V2.c1
        rw [en] at c0
        rw [el] at c1
        obtain ⟨lb, hlb⟩ : ∃ b, decide (kdS Z.f.s a = 2) = b := ⟨_, rfl⟩
        rw [hlb] at hln
        obtain ⟨ne, hne⟩ : ∃ b, ((a : Int) != (k : Int)) = b := ⟨_, rfl⟩
        obtain ⟨t, ht⟩ : ∃ t, t = decide (x.1 ∈ ints (nearP F a)) := ⟨_, rfl⟩
        have CO := Lib.hid (fun m => conI_same (hnr.kpNo ((Kp.refl No w2).drewN m)) x.1 t ht)
        have hxn : (a : Int) < (Z.n : Int) := by have := HA.out; have := HZN.out; omega
        have hx0 : (0 : Int) ≤ (a : Int) := by omega
        obtain ⟨E1, hE1⟩ : ∃ E, E = (decide (now < x.2) && decide (x.2 < 1048576) && decide (x.1 ∈ ints (stepsP F k [] a))) := ⟨_, rfl⟩
        have HE1 := Lib.hid hE1
        have hlb2 : decide (kdS F.s a = 2) = lb := by rw [← HZ.out.1]; exact hlb
        have HS1 := Lib.hid (show ne = true → lb = false → stepsP F k [] a = [] from fun h1 h2 => by
          unfold stepsP
          rw [if_pos (And.intro (fun e => by rw [e, h1] at hne; simp at hne) (by rw [h2] at hlb2; simpa using hlb2))])
        have HS2 := Lib.hid (show (ne = false ∨ lb = true) → stepsP F k [] a = nearP F a from fun h => by
          unfold stepsP
          rw [if_neg]
          · simp
          · rintro ⟨h1, h2⟩
            rcases h with h | h
            · rw [h, bne_eq_false_iff_eq] at hne; omega
            · rw [h] at hlb2; simp at hlb2; exact h2 hlb2)
        have HTT := Lib.hid ht
        clear hlb hlb2 hvn hnr ht C2 V2 el en hE1 hwi
        go_cut [36, 37, 38, 39, 40, 41, 42, 43, 44, 45, 46, 47, 48, 49, 50, 51, 52, 53, 54, 55, 56, 57, 58, 59, 60, 61, 62, 63, 64, 65, 66, 67, 68, 69, 70, 71, 72] (fun _ _ _ _ _ _ _ _ _ _ _ _ _ _ _ _ _ _ _ _ _ _ _ _ _ _ _ _ _ _ _ _ _ _ _ _ v72 wx => v72 = .bool (!E1) ∧ Kp No w2 wx)
        case first =>
          by_cases h1 : x.2 ≤ now
          · have d1 : decide (x.2 ≤ now) = true := by simpa using h1
            have HE := Lib.hid (show E1 = false by rw [HE1.out]; simp; omega)
            clear h1
            go_quiet (fail)
            go_wp2_with fail
            go_meet
            exact ⟨by rw [HE.out]; rfl, (Kp.refl No w2).drewN _⟩
          have d1 : decide (x.2 ≤ now) = false := by simpa using h1
          by_cases h2 : x.2 ≥ 1048576
          · have d2 : decide (x.2 ≥ 1048576) = true := by simpa using h2
            have HE := Lib.hid (show E1 = false by rw [HE1.out]; simp; omega)
            clear h1 h2
            go_quiet (fail)
            go_wp2_with fail
            go_meet
            exact ⟨by rw [HE.out]; rfl, (Kp.refl No w2).drewN _⟩
          have d2 : decide (x.2 ≥ 1048576) = false := by simpa using h2
          have HEQ := Lib.hid (show E1 = decide (x.1 ∈ ints (stepsP F k [] a)) by
            rw [HE1.out]
            have e1 : decide (now < x.2) = true := by simp; omega
            have e2 : decide (x.2 < 1048576) = true := by simp; omega
            rw [e1, e2]; rfl)
          clear h1 h2
          have hcs : (ne = true ∧ lb = false) ∨ ne = false ∨ (ne = true ∧ lb = true) := by cases ne <;> cases lb <;> simp
          rcases hcs with ⟨rfl, rfl⟩ | rfl | ⟨rfl, rfl⟩
          · have HE := Lib.hid (show E1 = false by rw [HEQ.out, HS1.out rfl rfl]; rfl)
            go_quiet (fail)
            go_wp2_with fail
            go_meet
            exact ⟨by rw [HE.out]; rfl, (Kp.refl No w2).drewN _⟩
          · have HE := Lib.hid (show E1 = t by rw [HEQ.out, HS2.out (.inl rfl), HTT.out])
            go_quiet ((go_at_call 51; exact Calls.quiet_of_same (CO.out _)))
            go_wp2_with fail
            go_meet
            exact ⟨by rw [HE.out], (Kp.refl No w2).drewN _⟩
          · have HE := Lib.hid (show E1 = t by rw [HEQ.out, HS2.out (.inr rfl), HTT.out])
            go_quiet ((go_at_call 51; exact Calls.quiet_of_same (CO.out _)))
            go_wp2_with fail
            go_meet
            exact ⟨by rw [HE.out], (Kp.refl No w2).drewN _⟩
        case rest =>
          obtain ⟨rfl, k3⟩ := hcut
          obtain ⟨w3, hw3⟩ : ∃ y : World, y = wc := ⟨_, rfl⟩
          rw [← hw3] at k3 ⊢
          have K3 := Lib.hid (K2.out.no k3)
          have B3 := Lib.hid (k3.blk BX.out (no_no _))
          clear hw3 k3 hb0 hb1 c0 c1 hln hnc
          cases E1 with
          | false =>
            have HE := Lib.hid (show b = false by
              rw [HB.out]
              refine wyB_no HX.out ?_
              rw [EN.out]
              unfold stB
              simp only
              rw [← HE1.out]; rfl)
            go_wp2_with fail
            go_ret
            exact ⟨by rw [HE.out]; rfl, K1.out.no K3.out⟩
          | true =>
            have he1 := HE1.out.symm
            simp only [Bool.and_eq_true, decide_eq_true_eq] at he1
            obtain ⟨⟨hnx, hx20⟩, hxm⟩ := he1
            obtain ⟨c, hcm, hcx⟩ : ∃ c : Nat, c ∈ stepsP F k [] a ∧ (c : Int) = x.1 := by
              unfold ints at hxm; rw [List.mem_map] at hxm; exact hxm
            have HCS := Lib.hid (steps_sz HRT.out HA.out hcm)
            have HCX := Lib.hid hcx
            have HXM := Lib.hid hxm
            have HNX := Lib.hid hnx; have HX20 := Lib.hid hx20
            have hwn : IntKind.i64.wrap (now + 1) = now + 1 := IntWalk.i64_in _ (by omega)
            clear hxm hcm hcx
            go_wp2_with fail
            go_loopg [17] ((x.2 - (now + 1)).toNat + 1) (fun g_ mv wx => ∃ m : Int, g_ = (x.2 - m).toNat + 1 ∧ mv = .int .i64 m ∧ now < m ∧ m ≤ x.2 ∧ (∀ t, now < t → t < m → isF (T a) t = true) ∧ Kp No w3 wx)
            case atStart => exact ⟨now + 1, rfl, rfl, by omega, by have := HNX.out; omega, fun t h1 h2 => by omega, Kp.refl _ _⟩
            case round =>
              obtain ⟨m, hgm, rfl, hm1, hm2, hfree, km⟩ := hrel
              have FRE := Lib.hid hfree; have KM := Lib.hid km
              clear hfree km
              have VR := SV.out.no (K3.out.no KM.out)
              have c3 := VR.c3
              have BR := Lib.hid (KM.out.blk B3.out (no_no _))
              have hb1 : wr.cell? ⟨bx, 1, none⟩ = some (.int .i64 x.2) := blk_cell BR.out 1
              clear VR
              by_cases hlm : m < x.2
              · have hwm : IntKind.i64.wrap (m + 1) = m + 1 := IntWalk.i64_in _ (by have := HX20.out; omega)
                obtain ⟨t2, ht2⟩ : ∃ t2, t2 = isF (T (a : Int)) m := ⟨_, rfl⟩
                have IS := Lib.hid ((CS.out.no (K3.out.no KM.out)).is_ (a : Int) m)
                rw [HZ.out.2.1, ← ht2] at IS
                have HT2 := Lib.hid ht2
                clear ht2
                go_wp2_with fail
                refine IS.out.mono ?_
                rintro e w4 ⟨rfl, k4⟩
                have K4 := Lib.hid (KM.out.no k4)
                clear k4 c3 hb1
                cases t2 with
                | false =>
                  have HE := Lib.hid (show b = false by
                    rw [HB.out]
                    refine wyB_no HX.out ?_
                    rw [EN.out]
                    cases hs : stB T (stepsP F k []) (a, now).1 (a, now).2 x with
                    | false => rfl
                    | true =>
                      unfold stB at hs
                      simp only [Bool.and_eq_true] at hs
                      have := frB_iff.1 hs.1.2 m hm1 hlm
                      rw [← HT2.out] at this; cases this)
                  go_wp2_with fail
                  go_ret
                  exact ⟨by rw [HE.out]; rfl, K1.out.no (K3.out.no K4.out)⟩
                | true =>
                  go_wp2_with fail
                  go_roundg ((x.2 - (m + 1)).toNat + 1)
                  case measure => omega
                  case rel => exact ⟨m + 1, rfl, rfl, by omega, by omega, fun t h1 h2 => by
                    by_cases e : t = m
                    · rw [e]; exact HT2.out.symm
                    · exact FRE.out t h1 (by omega), K4.out⟩
              · have hme : m = x.2 := by omega
                have FRB := Lib.hid (frB_iff.2 (by rw [← hme]; exact FRE.out) : frB T a now x.2 = true)
                obtain ⟨w5, hw5⟩ : ∃ y : World, y = wr := ⟨_, rfl⟩
                obtain ⟨t3, ht3⟩ : ∃ t3, t3 = isF (T x.1) x.2 := ⟨_, rfl⟩
                have IS := Lib.hid ((CS.out.no (K3.out.no KM.out.drew)).is_ x.1 x.2)
                rw [HZ.out.2.1, ← ht3] at IS
                have hb0 : wr.cell? ⟨bx, 0, none⟩ = some (.int .i64 x.1) := blk_cell BR.out 0
                have HT3 := Lib.hid ht3
                clear ht3 hw5 hme
                go_upto_region 15 with fail
                go_cut [89, 90, 91, 92, 93, 94, 95, 96, 97, 98] (fun _ _ _ _ _ _ _ _ _ v98 wx => v98 = .bool (!t3) ∧ Kp No w3 wx)
                case first =>
                  go_region_law (go_simp; go_at_call 28; refine IS.out.mono ?_; rintro e w6 ⟨rfl, k6⟩; have K6 := Lib.hid (KM.out.drew.no k6); clear k6)
                  all_goals
                    go_wp2_with fail
                    go_meet
                    exact ⟨rfl, K6.out⟩
                case rest =>
                  obtain ⟨rfl, k7⟩ := hcut
                  obtain ⟨w7, hw7⟩ : ∃ y : World, y = wc := ⟨_, rfl⟩
                  rw [← hw7] at k7 ⊢
                  have K7 := Lib.hid k7
                  clear hw7 k7 hb0 hb1 c3
                  cases t3 with
                  | false =>
                    have HE := Lib.hid (show b = false by
                      rw [HB.out]
                      refine wyB_no HX.out ?_
                      rw [EN.out]
                      unfold stB
                      rw [← HT3.out, Bool.and_false])
                    go_wp2_with fail
                    go_ret
                    exact ⟨by rw [HE.out]; rfl, K1.out.no (K3.out.no K7.out)⟩
                  | true =>
                    have B7 := Lib.hid (K7.out.blk B3.out (no_no _))
                    have hb0 : w7.cell? ⟨bx, 0, none⟩ = some (.int .i64 x.1) := blk_cell B7.out 0
                    have hb1 : w7.cell? ⟨bx, 1, none⟩ = some (.int .i64 x.2) := blk_cell B7.out 1
                    have hwi : IntKind.i64.wrap ((i : Int) + 1) = (i : Int) + 1 := IntWalk.i64_in _ (by omega)
                    have HSB := Lib.hid (show stB T (stepsP F k []) a now x = true by
                      unfold stB
                      rw [← HE1.out, FRB.out, ← HT3.out]; rfl)
                    have HW2 := Lib.hid (show wyB T (stepsP F k []) k s0 (l.take (i + 1)) = true by
                      rw [wyB_at HX.out, WY.out, EN.out]
                      exact HSB.out)
                    go_wp2_with fail
                    go_quiet (fail)
                    go_wp2_with fail
                    go_roundg (n + 1 - (i + 1))
                    case measure => omega
                    case rel =>
                      refine ⟨i + 1, c, x.2, rfl, by go_num, by omega, by rw [HCX.out], rfl, by rw [endW_at HX.out, ← HCX.out]; simp, HW2.out, HCS.out, by have := HNX.out; omega, HX20.out, (K3.out.no K7.out).drewN _⟩
      · obtain rfl : i = n := by omega
        have hd0 : ¬ (i : Int) < (i : Int) := by omega
        have HE := Lib.hid (show b = true by
          rw [HB.out]
          have := WY.out
          rw [HN.out, List.take_length] at this
          exact this)
        clear hlt
        go_wp2_with fail
        go_ret
        exact ⟨by rw [HE.out]; rfl, K1.out.no KP.out⟩
end Go.Proofs.YtgdokpfepfmbmaaDoor

namespace Go.Proofs.YtgdokpfepfmbmaaDoor
set_option linter.unusedVariables false
set_option linter.unusedSimpArgs false
open Go.RowKit

section
variable {T : Int → List (Int × Int)} {st : Nat → List Nat} {fr : Nat} {s0 : Int}
theorem stB_iff {a : Nat} {now : Int} {x : Int × Int} : stB T st a now x = true ↔ now < x.2 ∧ x.2 < 1048576 ∧ x.1 ∈ ints (st a) ∧ (∀ m, now < m → m < x.2 → isF (T a) m = true) ∧ isF (T x.1) x.2 = true := by
  unfold stB
  simp only [Bool.and_eq_true, decide_eq_true_eq, frB_iff, and_assoc]
/-- Where a way leads the robot can be. -/
theorem wy_rch (l : List (Int × Int)) : ∀ i, i ≤ l.length → wyB T st fr s0 (l.take i) = true → ∃ j : Nat, (endW fr s0 (l.take i)).2 = s0 + j ∧ Rch T st fr s0 j (endW fr s0 (l.take i)).1 := by
  intro i
  induction i with
  | zero => intro _ _; exact ⟨0, by simp [endW], rfl⟩
  | succ i ih =>
    intro hi hw
    obtain ⟨x, hx⟩ : ∃ x, l[i]? = some x := ⟨_, List.getElem?_eq_getElem (by omega)⟩
    rw [wyB_at hx, Bool.and_eq_true] at hw
    obtain ⟨j, e, hr⟩ := ih (by omega) hw.1
    rw [endW_at hx]
    obtain ⟨h1, h2, h3, h4, h5⟩ := stB_iff.1 hw.2
    rw [e] at h1 h4
    have stay : ∀ d : Nat, s0 + ((j + d : Nat) : Int) < x.2 → Rch T st fr s0 (j + d) (endW fr s0 (l.take i)).1 := by
      intro d
      induction d with
      | zero => intro _; exact hr
      | succ d ihd =>
        intro hd
        obtain ⟨q, hq⟩ : ∃ q : Nat, q = j + d := ⟨_, rfl⟩
        have e2 : j + (d + 1) = q + 1 := by omega
        rw [e2] at hd ⊢
        rw [← hq] at ihd
        exact ⟨h4 _ (by omega) hd, .inl (ihd (by omega))⟩
    obtain ⟨d, hd⟩ : ∃ d : Nat, s0 + ((j + d : Nat) : Int) + 1 = x.2 := ⟨(x.2 - s0 - j - 1).toNat, by omega⟩
    obtain ⟨c, hc, hcx⟩ : ∃ c : Nat, c ∈ st (endW fr s0 (l.take i)).1 ∧ (c : Int) = x.1 := by
      unfold ints at h3; rw [List.mem_map] at h3; exact h3
    refine ⟨j + d + 1, by show x.2 = _; omega, ?_⟩
    show Rch T st fr s0 (j + d + 1) x.1.toNat
    rw [← hcx, Int.toNat_natCast]
    refine ⟨?_, .inr ⟨_, stay d (by omega), hc⟩⟩
    rw [hcx, show s0 + ((j + d + 1 : Nat) : Int) = x.2 by omega]
    exact h5
end
/-- A plan that was made. -/
structure PlanW (F : Flr) (T : Int → List (Int × Int)) (fr s0 tg ah : Int) (pl : List (Int × Int)) : Prop where
  ok : spOk F fr s0 = true
  op : opQ F tg = true
  ahd : 0 ≤ ah ∧ ah ≤ 1024
  way : wyB T (stepsP F fr.toNat []) fr.toNat s0 pl = true
  e1 : (endW fr.toNat s0 pl).1 = tg.toNat
  kk : (pl = [] ∧ tg = fr) ∨ (tg ≠ fr ∧ pl ≠ [] ∧ ∃ k : Nat, k ≤ ah.toNat ∧ sn T (stepsP F fr.toNat []) fr.toNat s0 ah.toNat tg.toNat = s0 + k ∧ Rch T (stepsP F fr.toNat []) fr.toNat s0 k tg.toNat ∧ (∀ j : Nat, Rch T (stepsP F fr.toNat []) fr.toNat s0 j tg.toNat → k ≤ j) ∧ pl = plF F T fr.toNat s0 k tg.toNat ∧ (endW fr.toNat s0 pl).2 = s0 + k)
theorem spOk_nat {F : Flr} {fr s0 : Int} (h : spOk F fr s0 = true) : ∃ k : Nat, fr = k ∧ k < F.s.size ∧ RightP F ∧ kdS F.s k ≠ 1 ∧ 0 ≤ s0 ∧ s0 < 1048576 := by
  unfold spOk at h
  simp only [Bool.and_eq_true, decide_eq_true_eq] at h
  obtain ⟨k, rfl, h1, h2⟩ := ptOk_nat h.1.1
  exact ⟨k, rfl, h1, h2, ptOk_ne1 h.1.1, h.1.2, h.2⟩
theorem rch_size {F : Flr} {T : Int → List (Int × Int)} {k : Nat} {s0 : Int} (hr : RightP F) (hk : k < F.s.size) : ∀ m c, Rch T (stepsP F k []) k s0 m c → c < F.s.size := by
  intro m
  induction m with
  | zero => intro c hc; have hc : c = k := hc; omega
  | succ m ih =>
    rintro c ⟨_, hc | ⟨u, hu, hcu⟩⟩
    · exact ih c hc
    · exact steps_sz hr (ih u hu) hcu
theorem planR_cases {F : Flr} {T : Int → List (Int × Int)} {fr s0 tg ah : Int} {pl : List (Int × Int)} {pe : Int} (hT : WFT T) (h : (pl, pe) = planR F T fr s0 tg ah) :
    (pe = 0 ∧ PlanW F T fr s0 tg ah pl) ∨ (pl = [] ∧ ((pe = 1 ∧ ¬ (spOk F fr s0 = true ∧ (decide (0 ≤ ah) && decide (ah ≤ 1024)) = true ∧ opQ F tg = true)) ∨ (pe = 2 ∧ spOk F fr s0 = true ∧ (decide (0 ≤ ah) && decide (ah ≤ 1024)) = true ∧ opQ F tg = true ∧ tg ≠ fr ∧ sn T (stepsP F fr.toNat []) fr.toNat s0 ah.toNat tg.toNat = -1))) := by
  unfold planR at h
  split at h
  · rename_i hc
    obtain ⟨h1, h2, h3⟩ := hc
    have h2' := h2
    simp only [Bool.and_eq_true, decide_eq_true_eq] at h2'
    obtain ⟨k, hk, hkn, hr, hk1, hs0, _⟩ := spOk_nat h1
    split at h
    · rename_i e
      simp only [Prod.mk.injEq] at h
      obtain ⟨rfl, rfl⟩ := h
      exact .inl ⟨rfl, h1, h3, h2', rfl, by rw [e]; rfl, .inl ⟨rfl, e⟩⟩
    · rename_i e
      have hsn := sn_is T (stepsP F fr.toNat []) fr.toNat s0 ah.toNat tg.toNat
      split at h
      · rename_i e2
        simp only [Prod.mk.injEq] at h
        obtain ⟨rfl, rfl⟩ := h
        refine .inr ⟨rfl, .inr ⟨rfl, h1, h2, h3, e, ?_⟩⟩
        rcases hsn with ⟨e3, _⟩ | ⟨j, _, e3, _⟩
        · exact e3
        · omega
      · rename_i e2
        simp only [Prod.mk.injEq] at h
        obtain ⟨rfl, rfl⟩ := h
        rcases hsn with ⟨e3, _⟩ | ⟨j, hj, e3, hrj, hmin⟩
        · omega
        have hjj : (sn T (stepsP F fr.toNat []) fr.toNat s0 ah.toNat tg.toNat - s0).toNat = j := by omega
        rw [hjj]
        subst hk
        rw [Int.toNat_natCast] at *
        have hf := flp_floor (T := T) (s0 := s0) hr hk1 (rch_size hr hkn)
        obtain ⟨w1, w2, w3, w4⟩ := plP_way hT hf j tg.toNat hrj
        have w1 : wyB T (stepsP F k []) k s0 (plF F T k s0 j tg.toNat) = true := w1
        have w2 : (endW k s0 (plF F T k s0 j tg.toNat)).1 = tg.toNat := w2
        have w3 : (endW k s0 (plF F T k s0 j tg.toNat)).2 ≤ s0 + j := w3
        have hne : plF F T k s0 j tg.toNat ≠ [] := by
          intro e4
          rw [e4] at w2
          have w2 : k = tg.toNat := w2
          unfold opQ at h3
          simp only [Bool.and_eq_true, decide_eq_true_eq] at h3
          omega
        have hend : (endW k s0 (plF F T k s0 j tg.toNat)).2 = s0 + j := by
          obtain ⟨i, e4, hri⟩ := wy_rch (plF F T k s0 j tg.toNat) _ (Nat.le_refl _) (by rw [List.take_length]; exact w1)
          rw [List.take_length] at e4 hri
          rw [w2] at hri
          have := hmin i hri
          omega
        exact .inl ⟨rfl, by simpa using h1, h3, h2', by simpa using w1, by simpa using w2, .inr ⟨e, hne, j, hj, by simpa using e3, by simpa using hrj, by simpa using hmin, by simp, by simpa using hend⟩⟩
  · rename_i hc
    simp only [Prod.mk.injEq] at h
    obtain ⟨rfl, rfl⟩ := h
    exact .inr ⟨rfl, .inl ⟨rfl, hc⟩⟩
/-- Each step of a plan. -/
theorem PlanW.step {F : Flr} {T : Int → List (Int × Int)} {fr s0 tg ah : Int} {pl : List (Int × Int)} (h : PlanW F T fr s0 tg ah pl) {i : Nat} {x : Int × Int} (hx : pl[i]? = some x) : stB T (stepsP F fr.toNat []) (endW fr.toNat s0 (pl.take i)).1 (endW fr.toNat s0 (pl.take i)).2 x = true := by
  have := wyB_take (i + 1) h.way
  rw [wyB_at hx, Bool.and_eq_true] at this
  exact this.2
theorem PlanW.len {F : Flr} {T : Int → List (Int × Int)} {fr s0 tg ah : Int} {pl : List (Int × Int)} (h : PlanW F T fr s0 tg ah pl) : pl.length ≤ ah.toNat := by
  rcases h.kk with ⟨e, _⟩ | ⟨_, _, k, hk, _, _, _, e, _⟩
  · rw [e]; simp
  · rw [e]; exact Nat.le_trans (plP_len _ _) hk
end Go.Proofs.YtgdokpfepfmbmaaDoor

namespace Go.Proofs.YtgdokpfepfmbmaaDoor
set_option linter.unusedVariables false
set_option linter.unusedSimpArgs false
open Go.RowKit

section
variable {T : Int → List (Int × Int)} {st : Nat → List Nat} {fr : Nat} {s0 : Int}
theorem rch_wk : ∀ (k c : Nat), Rch T st fr s0 k c → ∃ j, j ≤ k ∧ Wk st fr j c := by
  intro k
  induction k with
  | zero => intro c hc; have hc : c = fr := hc; subst hc; exact ⟨0, Nat.le_refl _, .nil⟩
  | succ k ih =>
    rintro c ⟨_, h | ⟨u, h, hc⟩⟩
    · obtain ⟨j, h1, h2⟩ := ih c h; exact ⟨j, by omega, h2⟩
    · obtain ⟨j, h1, h2⟩ := ih u h; exact ⟨j + 1, by omega, .step h2 hc⟩
theorem isF_nil (m : Int) : isF [] m = true ↔ 0 ≤ m ∧ m < 1048576 := by
  rw [ref_is WFL.nil]
  simp [inB]
theorem wk_rch {T : Int → List (Int × Int)} (hT : ∀ c, T c = []) (h0 : 0 ≤ s0) : ∀ (k : Nat), s0 + (k : Int) < 1048576 → ∀ (j c : Nat), j ≤ k → Wk st fr j c → Rch T st fr s0 k c := by
  intro k
  induction k with
  | zero =>
    intro _ j c hj hw
    obtain rfl : j = 0 := by omega
    cases hw; rfl
  | succ k ih =>
    intro hk j c hj hw
    refine ⟨by rw [hT]; exact (isF_nil _).2 (by omega), ?_⟩
    rcases Nat.lt_or_ge j (k + 1) with h | h
    · exact .inl (ih (by omega) j c (by omega) hw)
    · obtain rfl : j = k + 1 := by omega
      cases hw with
      | step h1 h2 => exact .inr ⟨_, ih (by omega) k _ (Nat.le_refl _) h1, h2⟩
theorem sn_free {T : Int → List (Int × Int)} (hT : ∀ c, T c = []) (h0 : 0 ≤ s0) (A c : Nat) (hA : s0 + (A : Int) < 1048576) : sn T st fr s0 A c = if 0 ≤ dst st fr c ∧ dst st fr c ≤ A then s0 + dst st fr c else -1 := by
  refine (sn_is T st fr s0 A c).uniq ?_
  rcases dst_isD st fr c with ⟨e, h⟩ | ⟨k, e, h1, h2⟩
  · rw [if_neg (by omega)]
    exact .inl ⟨rfl, fun k _ hr => by obtain ⟨j, _, hw⟩ := rch_wk k c hr; exact h j hw⟩
  · by_cases hk : k ≤ A
    · rw [if_pos (by omega), e]
      refine .inr ⟨k, hk, rfl, wk_rch hT h0 k (by omega) k c (Nat.le_refl _) h1, fun j hr => ?_⟩
      obtain ⟨i, hi, hw⟩ := rch_wk j c hr
      have := h2 i hw; omega
    · rw [if_neg (by omega)]
      refine .inl ⟨rfl, fun j hj hr => ?_⟩
      obtain ⟨i, hi, hw⟩ := rch_wk j c hr
      have := h2 i hw; omega
theorem sn_dst {A c : Nat} {k : Nat} (h : sn T st fr s0 A c = s0 + (k : Int)) (hr : Rch T st fr s0 k c) : 0 ≤ dst st fr c ∧ dst st fr c ≤ k := by
  obtain ⟨j, hj, hw⟩ := rch_wk k c hr
  rcases dst_isD st fr c with ⟨_, h⟩ | ⟨i, e, _, h2⟩
  · exact absurd hw (h j)
  · have := h2 j hw; omega
/-- A way of so many steps leads so far at most; its moments rise. -/
theorem wy_len (l : List (Int × Int)) : ∀ i, i ≤ l.length → wyB T st fr s0 (l.take i) = true → Wk st fr i (endW fr s0 (l.take i)).1 ∧ s0 + (i : Int) ≤ (endW fr s0 (l.take i)).2 := by
  intro i
  induction i with
  | zero => intro _ _; exact ⟨.nil, by simp [endW]⟩
  | succ i ih =>
    intro hi hw
    obtain ⟨x, hx⟩ : ∃ x, l[i]? = some x := ⟨_, List.getElem?_eq_getElem (by omega)⟩
    rw [wyB_at hx, Bool.and_eq_true] at hw
    obtain ⟨h1, h2⟩ := ih (by omega) hw.1
    obtain ⟨h3, h4, h5, h6, h7⟩ := stB_iff.1 hw.2
    rw [endW_at hx]
    obtain ⟨c, hc, hcx⟩ : ∃ c : Nat, c ∈ st (endW fr s0 (l.take i)).1 ∧ (c : Int) = x.1 := by
      unfold ints at h5; rw [List.mem_map] at h5; exact h5
    refine ⟨?_, by show s0 + ((i + 1 : Nat) : Int) ≤ x.2; omega⟩
    show Wk st fr (i + 1) x.1.toNat
    rw [← hcx, Int.toNat_natCast]
    exact .step h1 hc
theorem wy_rise (l : List (Int × Int)) (hw : wyB T st fr s0 l = true) : ∀ d i, i + d ≤ l.length → (endW fr s0 (l.take i)).2 + (d : Int) ≤ (endW fr s0 (l.take (i + d))).2 := by
  intro d
  induction d with
  | zero => intro i _; simp
  | succ d ih =>
    intro i hi
    have h1 := ih i (by omega)
    obtain ⟨x, hx⟩ : ∃ x, l[i + d]? = some x := ⟨_, List.getElem?_eq_getElem (by omega)⟩
    have h2 := wyB_take (i + d + 1) hw
    rw [wyB_at hx, Bool.and_eq_true] at h2
    have h3 := (stB_iff.1 h2.2).1
    rw [show i + (d + 1) = i + d + 1 by omega, endW_at hx]
    show _ ≤ x.2
    omega
end
/-- Where all is free a plan waits nowhere. -/
theorem PlanW.free {F : Flr} {T : Int → List (Int × Int)} {fr s0 tg ah : Int} {pl : List (Int × Int)} (h : PlanW F T fr s0 tg ah pl) (hT : ∀ c, T c = []) (hs : s0 + 1024 < 1048576) : (∀ (i : Nat) x, pl[i]? = some x → x.2 = s0 + (i : Int) + 1) ∧ (pl.length : Int) = dst (stepsP F fr.toNat []) fr.toNat tg.toNat := by
  obtain ⟨k0, hk0, hkn, hr, hk1, h0, _⟩ := spOk_nat h.ok
  have ahd := h.ahd
  rcases h.kk with ⟨e, e2⟩ | ⟨hne, hnil, k, hk, hsn, hrk, hmin, hpl, hend⟩
  · subst e
    refine ⟨fun i x hx => by simp at hx, ?_⟩
    rcases dst_isD (stepsP F fr.toNat []) fr.toNat tg.toNat with ⟨_, h⟩ | ⟨j, e3, _, h2⟩
    · rw [e2] at h; exact absurd .nil (h 0)
    · have := h2 0 (by rw [e2]; exact .nil)
      rw [e3]; simp; omega
  · have hd : dst (stepsP F fr.toNat []) fr.toNat tg.toNat = k := by
      have h1 := sn_free (st := stepsP F fr.toNat []) (fr := fr.toNat) hT h0 ah.toNat tg.toNat (by omega)
      rw [hsn] at h1
      split at h1
      · omega
      · omega
    have hlen : pl.length ≤ k := by rw [hpl]; exact plP_len _ _
    have hw := h.way
    have hl := wy_len pl pl.length (Nat.le_refl _) (by rw [List.take_length]; exact hw)
    rw [List.take_length, h.e1] at hl
    have hge : k ≤ pl.length := by
      rcases dst_isD (stepsP F fr.toNat []) fr.toNat tg.toNat with ⟨e3, _⟩ | ⟨j, e3, _, h2⟩
      · omega
      · have := h2 _ hl.1; omega
    have hkl : pl.length = k := by omega
    refine ⟨fun i x hx => ?_, by rw [hkl, hd]⟩
    have hi := (List.getElem?_eq_some_iff.1 hx).1
    have h1 := (wy_len pl (i + 1) (by omega) (wyB_take _ hw)).2
    have h2 := wy_rise pl hw (k - (i + 1)) (i + 1) (by omega)
    rw [show i + 1 + (k - (i + 1)) = pl.length by omega, List.take_length, hend] at h2
    rw [endW_at hx] at h1 h2
    simp only at h1 h2
    omega
theorem PlanW.last {F : Flr} {T : Int → List (Int × Int)} {fr s0 tg ah : Int} {pl : List (Int × Int)} (h : PlanW F T fr s0 tg ah pl) {x : Int × Int} (hx : pl[pl.length - 1]? = some x) : x.1 = tg ∧ x.2 = sn T (stepsP F fr.toNat []) fr.toNat s0 ah.toNat tg.toNat ∧ dst (stepsP F fr.toNat []) fr.toNat tg.toNat ≤ x.2 - s0 ∧ x.2 - s0 ≤ ah := by
  have hi := (List.getElem?_eq_some_iff.1 hx).1
  have he : endW fr.toNat s0 pl = (x.1.toNat, x.2) := by
    have := endW_at (a := fr.toNat) (now := s0) hx
    rwa [show pl.length - 1 + 1 = pl.length by omega, List.take_length] at this
  have ahd := h.ahd
  have hop := h.op
  unfold opQ at hop
  simp only [Bool.and_eq_true, decide_eq_true_eq] at hop
  obtain ⟨_, _, h3, _⟩ := stB_iff.1 (h.step hx)
  obtain ⟨c, hc, hcx⟩ : ∃ c : Nat, c ∈ stepsP F fr.toNat [] (endW fr.toNat s0 (pl.take (pl.length - 1))).1 ∧ (c : Int) = x.1 := by
    unfold ints at h3; rw [List.mem_map] at h3; exact h3
  have e1 := h.e1
  rw [he] at e1
  simp only at e1
  rcases h.kk with ⟨e, _⟩ | ⟨_, _, k, hk, hsn, hrk, _, _, hend⟩
  · rw [e] at hi; simp at hi
  · rw [he] at hend
    simp only at hend
    have := sn_dst hsn hrk
    exact ⟨by omega, by rw [hsn]; exact hend, by omega, by omega⟩
/-- A wall is never reached. -/
theorem sn_wall {F : Flr} {T : Int → List (Int × Int)} {fr : Nat} {s0 : Int} (hr : RightP F) (hk : fr < F.s.size) (h1 : kdS F.s fr ≠ 1) {c A : Nat} (hc : c < F.s.size) (hw : bt F.s c = 35) : sn T (stepsP F fr []) fr s0 A c = -1 := by
  refine (sn_is T (stepsP F fr []) fr s0 A c).uniq (.inl ⟨rfl, ?_⟩)
  have hkc : kdS F.s c = 1 := by unfold kdS; rw [hw]; rfl
  have key : ∀ k c, Rch T (stepsP F fr []) fr s0 k c → kdS F.s c ≠ 1 := by
    intro k
    induction k with
    | zero => intro c hc; have hc : c = fr := hc; rw [hc]; exact h1
    | succ k ih =>
      rintro c ⟨_, h | ⟨u, h, hcu⟩⟩
      · exact ih c h
      · have h2 := (steps_near hcu).1
        unfold nearP at h2
        split at h2
        · have := (List.mem_filter.1 h2).2
          simpa using this
        · simp at h2
  exact fun k _ hr => key k c hr hkc
end Go.Proofs.YtgdokpfepfmbmaaDoor

namespace Go.Proofs.YtgdokpfepfmbmaaDoor
set_option linter.unusedVariables false
set_option linter.unusedSimpArgs false
open Go.RowKit

/-! ### One moment is taken -/
theorem take_one {l : List (Int × Int)} {m : Int} (hl : l.length ≤ 4000) (h : isF l m = true) : takeE l m (m + 1) = 0 := by
  have hr := isF_range h
  unfold isF at h
  simp only [Bool.and_eq_true, decide_eq_true_eq] at h
  obtain ⟨_, h⟩ := h
  unfold takeE
  rw [if_neg (by omega), if_neg, if_neg (by omega)]
  cases hx : l[place l m]? with
  | none => simp
  | some x =>
    rw [hx] at h
    simp only [decide_eq_true_eq] at h
    simp; omega
theorem inB_ins (j : Int) (l : List (Int × Int)) (i : Nat) (y : Int × Int) : inB j (insL l i y) = (inB j l || (decide (y.1 ≤ j) && decide (j < y.2))) := by
  rw [Bool.eq_iff_iff]
  simp only [Bool.or_eq_true, Bool.and_eq_true, decide_eq_true_eq, inB_iff]
  unfold insL
  have e : ∀ x, x ∈ l ↔ x ∈ l.take i ∨ x ∈ l.drop i := fun x => by
    rw [← List.mem_append, List.take_append_drop]
  constructor
  · rintro ⟨x, hx, h⟩
    simp only [List.mem_append, List.mem_cons, List.not_mem_nil, or_false] at hx
    rcases hx with (hx | hx) | hx
    · exact .inl ⟨x, (e x).2 (.inl hx), h⟩
    · subst hx; exact .inr h
    · exact .inl ⟨x, (e x).2 (.inr hx), h⟩
  · rintro (⟨x, hx, h⟩ | h)
    · refine ⟨x, ?_, h⟩
      simp only [List.mem_append, List.mem_cons, List.not_mem_nil, or_false]
      rcases (e x).1 hx with hx | hx
      · exact .inl (.inl hx)
      · exact .inr hx
    · exact ⟨y, by simp, h⟩
theorem isF_take1 {T : Int → List (Int × Int)} (hT : WFT T) {c m : Int} (hl : (T c).length ≤ 4000) (h : isF (T c) m = true) (k j : Int) : isF (takeT T c m (m + 1) k) j = (isF (T k) j && !(decide (k = c) && decide (j = m))) := by
  have h0 := take_one hl h
  have h2 := (hT.take c m (m + 1)) k
  rw [ref_is h2, ref_is (hT k)]
  unfold takeT at h2 ⊢
  rw [if_pos h0] at h2 ⊢
  unfold setT at h2 ⊢
  by_cases e : k = c
  · subst e
    rw [if_pos rfl, inB_ins]
    have e1 : (decide (m ≤ j) && decide (j < m + 1)) = decide (j = m) := by
      rw [Bool.eq_iff_iff]; simp; omega
    simp only
    rw [e1]
    cases inB j (T k) <;> cases decide (j = m) <;> simp
  · rw [if_neg e]
    simp [e]

/-! ### Maps with keys of two ints -/
def kv2 (c : Int × Int) : Value := .agg #[.int .i64 c.1, .int .i64 c.2]
def MapP (w : World) (bm : Nat) (es : List ((Int × Int) × Value)) : Prop :=
  ∃ arr clk, w.heap[bm]? = some (.map arr clk) ∧ arr.toList.map (fun e => (e.key, e.val)) = es.map (fun x => (kv2 x.1, x.2))
section
variable {w w' : World} {bm : Nat} {es : List ((Int × Int) × Value)}
theorem MapP.lt (h : MapP w bm es) : bm < w.heap.size := let ⟨_, _, h1, _⟩ := h; lt_of_block h1
theorem MapP.kp {S : Nat → Prop} (h : MapP w bm es) (hk : Kp S w w') (hn : ¬ S bm) : MapP w' bm es :=
  let ⟨arr, clk, h1, h2⟩ := h
  ⟨arr, clk, hk.blk h1 hn, h2⟩
theorem MapP.made (w : World) : MapP (w.alloc (.map #[] 0)) w.heap.size [] := ⟨#[], 0, blk_new w _, rfl⟩
set_option maxRecDepth 100000 in
theorem undP : Tryd.prog.underlying 68 = some (.map 73 3) := by kernel_rfl
set_option maxRecDepth 100000 in
theorem undK : Tryd.prog.underlying 73 = some (.array 2 3) := by kernel_rfl
theorem plainI : Tryd.prog.plainKey 3 = true := by kernel_rfl
theorem cellsI : Tryd.prog.cellsOf 3 = 1 := by kernel_rfl
theorem sizeI (w : World) : (sizeOf 3).run Tryd.prog w = .ok 1 w := by
  obtain ⟨i, hi⟩ := info_of_underlying Tryd.underlying3
  rw [run_sizeOf w hi, cellsI]
theorem partI {xs : Array Value} {off : Nat} {v : Value} (hx : xs[off]? = some v) (w : World) : (part 3 xs off).run Tryd.prog w = .ok v w := run_part_plain w plainI hx
theorem eqI (d : Nat) (a b : Int) (w : World) : (Op.equalIn (d + 1) 3 (.int .i64 a) (.int .i64 b)).run Tryd.prog w = .ok (a == b) w := by
  simp [Op.equalIn, run_underlying Tryd.underlying3]
theorem eqP (x y : Int × Int) (w : World) : (Op.equal 73 (kv2 x) (kv2 y)).run Tryd.prog w = .ok (decide (x = y)) w := by
  have e : Op.maxDepth = 9998 + 1 + 1 := rfl
  unfold Op.equal
  rw [e]
  have p0 := fun (a b : Int) => partI (xs := #[.int .i64 a, .int .i64 b]) (off := 0) (v := .int .i64 a) rfl
  have p1 := fun (a b : Int) => partI (xs := #[.int .i64 a, .int .i64 b]) (off := 1) (v := .int .i64 b) rfl
  have h : decide (x = y) = (decide (x.1 = y.1) && decide (x.2 = y.2)) := by
    rw [← Bool.decide_and]; exact decide_eq_decide.2 Prod.ext_iff
  rw [h]
  have eq9 := fun (a b : Int) (w : World) => eqI 9998 a b w
  unfold Op.equalIn kv2
  by_cases h1 : x.1 = y.1 <;> by_cases h2 : x.2 = y.2 <;> simp [run_underlying undK, sizeI, List.range', p0, p1, eq9, h1, h2]
theorem checkP (b : Bool) (c : Int × Int) (w : World) : (Instr.checkKey b 10000 73 (kv2 c)).run Tryd.prog w = .ok () w := by
  have e : (10000 : Nat) = 9998 + 1 + 1 := rfl
  rw [e]
  unfold Instr.checkKey kv2
  have p0 := fun (a b : Int) => partI (xs := #[.int .i64 a, .int .i64 b]) (off := 0) (v := .int .i64 a) rfl
  have p1 := fun (a b : Int) => partI (xs := #[.int .i64 a, .int .i64 b]) (off := 1) (v := .int .i64 b) rfl
  have ck : ∀ (a : Int) (w : World), (Instr.checkKey b (9998 + 1) 3 (.int .i64 a)).run Tryd.prog w = .ok () w := fun a w => run_checkKey Tryd.underlying3 b 9998 a w
  simp [run_underlying undK, sizeI, List.range', p0, p1, ck]
theorem askP (c : Int × Int) (w : World) : ∀ (l : List MapEntry) (xs : List ((Int × Int) × Value)) (i : Nat), l.map (fun e => (e.key, e.val)) = xs.map (fun x => (kv2 x.1, x.2)) → c ∉ xs.map (·.1) → (Instr.findAsking 73 (kv2 c) l i).run Tryd.prog w = .ok none w := by
  intro l
  induction l with
  | nil => intro xs i _ _; rfl
  | cons e l ih =>
    intro xs i h hn
    cases xs with
    | nil => simp at h
    | cons x xs =>
      simp only [List.map_cons, List.cons.injEq, Prod.mk.injEq] at h
      obtain ⟨⟨h1, h2⟩, h3⟩ := h
      have hne : c ≠ x.1 := fun e => hn (by simp [e])
      have := ih xs (i + 1) h3 (fun e => hn (by simp [e]))
      unfold Instr.findAsking
      rw [h1]
      simp [eqP, hne, this]
theorem findP {arr : Array MapEntry} {c : Int × Int} {xs : List ((Int × Int) × Value)} (h : arr.toList.map (fun e => (e.key, e.val)) = xs.map (fun x => (kv2 x.1, x.2))) (hn : c ∉ xs.map (·.1)) (w : World) : (Instr.findKey 73 (kv2 c) arr.toList).run Tryd.prog w = .ok none w := by
  unfold Instr.findKey
  have ha := askP c w arr.toList xs 0 h hn
  cases hl : arr.toList with
  | nil => simp [run_underlying undK, Instr.findNow]
  | cons e l =>
    rw [hl] at ha
    have hk : Instr.sameNow (.array 2 3) (kv2 c) e.key = none := by unfold Instr.sameNow; rfl
    simp [run_underlying undK, Instr.findNow, hk, ha]
theorem MapP.lookNo (h : MapP w bm es) (c : Int × Int) (hn : c ∉ es.map (·.1)) : (Instr.lookup 68 (.map (some bm)) (.agg #[.int .i64 c.1, .int .i64 c.2]) true).run Tryd.prog w = .ok (.tuple #[.int .i64 0, .bool false]) w := by
  obtain ⟨arr, clk, hb, hm⟩ := h
  have hf := findP hm hn w
  have hc := checkP arr.isEmpty c w
  unfold kv2 at hf hc
  have hz : ∀ w : World, (zeroValue 3).run Tryd.prog w = .ok (.int .i64 0) w := fun w => by kernel_rfl
  simp only [Instr.lookup]
  simp [run_underlying undP, MapKept.run_getObj_map hb, hc, hf, hz]
theorem MapP.updNew (h : MapP w bm es) (c : Int × Int) (hn : c ∉ es.map (·.1)) (v : Value) :
    ∃ w', (Instr.mapUpdate 68 (.map (some bm)) (.agg #[.int .i64 c.1, .int .i64 c.2]) v).run Tryd.prog w = .ok () w' ∧ MapP w' bm (es ++ [(c, v)]) ∧ Kp (fun j => j = bm) w w' := by
  obtain ⟨arr, clk, hb, hm⟩ := h
  have hlt := lt_of_block hb
  have hf := findP hm hn w
  have hc := checkP false c w
  unfold kv2 at hf hc
  refine ⟨{ w with heap := w.heap.setIfInBounds bm (.map (arr.push ⟨.agg #[.int .i64 c.1, .int .i64 c.2], v, clk⟩) (clk + 1)) }, ?_, ?_, (Kp.refl (fun j => j = bm) w).setBlk (fun _ => rfl) _⟩
  · simp only [Instr.mapUpdate]
    simp [run_underlying undP, MapKept.run_getObj_map hb, hc, hf]
    simp [setObj, Sem.run, hb]
  · exact ⟨_, _, by simp [hlt]; exact ⟨rfl, rfl⟩, by simp [hm, kv2]⟩
end
/-! ### Both in memory -/
/-- What was told of a moment stands as taken. -/
structure TopI (T : Int → List (Int × Int)) (es : List ((Int × Int) × Value)) : Prop where
  wf : WFT T
  on : ∀ c m, (c, m) ∈ es.map (·.1) → isF (T c) m = false
theorem TopI.new {T : Int → List (Int × Int)} {es : List ((Int × Int) × Value)} (h : TopI T es) {c m : Int} (hf : isF (T c) m = true) : (c, m) ∉ es.map (·.1) := fun e => by have := h.on c m e; rw [hf] at this; cases this
theorem TopI.step {T : Int → List (Int × Int)} {es : List ((Int × Int) × Value)} (h : TopI T es) {c m : Int} (hl : (T c).length ≤ 4000) (hf : isF (T c) m = true) (v : Value) : TopI (takeT T c m (m + 1)) (es ++ [((c, m), v)]) := by
  refine ⟨h.wf.take _ _ _, fun k j hk => ?_⟩
  rw [isF_take1 h.wf hl hf]
  rw [List.map_append, List.mem_append] at hk
  rcases hk with hk | hk
  · rw [h.on k j hk]; rfl
  · simp only [List.map_cons, List.map_nil, List.mem_singleton, Prod.mk.injEq] at hk
    obtain ⟨rfl, rfl⟩ := hk
    simp
structure TpM (w0 : World) (bt bm : Nat) (T : Int → List (Int × Int)) (es : List ((Int × Int) × Value)) (F : Nat → Prop) (w : World) : Prop where
  t : RepT w bt T F
  m : MapP w bm es
  nf : ¬ F bm
  ne : bm ≠ bt
  fo : ∀ k, F k → w0.heap.size ≤ k
  bo : w0.heap.size ≤ bm
  kp : Kp No w0 w
/-- A block that neither the table nor the map has. -/
def Out (F : Nat → Prop) (bm : Nat) (w : World) (b : Nat) : Prop := ¬ F b ∧ b ≠ bm ∧ b < w.heap.size
/-- From one world to the next: only the table and the map are written. -/
structure TpS (F F' : Nat → Prop) (bm : Nat) (w w' : World) : Prop where
  kp : Kp (fun k => F k ∨ k = bm) w w'
  fo : ∀ k, F' k → F k ∨ w.heap.size ≤ k
section
variable {w0 w w' w'' : World} {bt bm : Nat} {T : Int → List (Int × Int)} {es : List ((Int × Int) × Value)} {F F' F'' : Nat → Prop}
theorem TpM.no (h : TpM w0 bt bm T es F w) (hk : Kp No w w') : TpM w0 bt bm T es F w' := ⟨h.t.kpNo hk, h.m.kp hk (no_no _), h.nf, h.ne, h.fo, h.bo, h.kp.no hk⟩
theorem TpS.no (hk : Kp No w w') : TpS F F bm w w' := ⟨hk.mono fun _ _ e => e.elim, fun _ e => .inl e⟩
theorem TpS.trans (h : TpS F F' bm w w') (g : TpS F' F'' bm w' w'') : TpS F F'' bm w w'' := by
  have hs := h.kp.size
  refine ⟨h.kp.trans' g.kp fun j hj e => ?_, fun k e => ?_⟩
  · rcases e with e | e
    · rcases h.fo _ e with e | e
      · exact .inl e
      · omega
    · exact .inr e
  · rcases g.fo _ e with e | e
    · exact h.fo _ e
    · exact .inr (by omega)
theorem Out.step (h : TpS F F' bm w w') {b : Nat} (o : Out F bm w b) : Out F' bm w' b := by
  have hs := h.kp.size
  refine ⟨fun e => ?_, o.2.1, by have := o.2.2; omega⟩
  rcases h.fo _ e with e | e
  · exact o.1 e
  · have := o.2.2; omega
theorem Out.blk (h : TpS F F' bm w w') {b : Nat} (o : Out F bm w b) {ob : Obj} (hb : w.heap[b]? = some ob) : w'.heap[b]? = some ob :=
  h.kp.blk hb (by rintro (e | e); exact o.1 e; exact o.2.1 e)
theorem Out.rd (h : TpS F F' bm w w') {α : Type} {K : Kd α} {v : Value} {l : List α} (o : ∀ g, v.ownBlock = some g → Out F bm w g) (hr : Rd K w v l) : Rd K w' v l :=
  hr.kp h.kp fun g hg => by rintro (e | e); exact (o g hg).1 e; exact (o g hg).2.1 e
theorem TpM.take (h : TpM w0 bt bm T es F w) (hT : WFT T) (c a b : Int) :
    Calls Tryd.prog 19 #[.pointer (some ⟨bt, 0, none⟩), .int .i64 c, .agg #[.int .i64 a, .int .i64 b]] w fun e w' => e = .returned (.int .i64 (takeE (T c) a b)) ∧ ∃ F', TpM w0 bt bm (takeT T c a b) es F' w' ∧ TpS F F' bm w w' :=
  (take_any h.t hT c a b).mono fun e w' ⟨he, F', g1, g2, g3⟩ => ⟨he, F', ⟨g1, h.m.kp g2 h.nf, fun e => by
    rcases g3 _ e with e | e
    · exact h.nf e
    · have := h.m.lt; omega, h.ne, fun k e => by
    rcases g3 _ e with e | e
    · exact h.fo k e
    · have := h.kp.size; omega, h.bo, h.kp.trans' g2 fun j hj e => by have := h.fo j e; omega⟩, ⟨g2.mono fun _ _ e => .inl e, g3⟩⟩
theorem TpM.upd (h : TpM w0 bt bm T es F w) (c : Int × Int) (hn : c ∉ es.map (·.1)) (v : Value) :
    ∃ w', (Instr.mapUpdate 68 (.map (some bm)) (.agg #[.int .i64 c.1, .int .i64 c.2]) v).run Tryd.prog w = .ok () w' ∧ TpM w0 bt bm T (es ++ [(c, v)]) F w' ∧ TpS F F bm w w' := by
  obtain ⟨w', h1, h2, h3⟩ := h.m.updNew c hn v
  exact ⟨w', h1, ⟨h.t.kp h3 (fun e => h.ne e.symm) (fun b hb e => h.nf (e ▸ hb)), h2, h.nf, h.ne, h.fo, h.bo, h.kp.trans' h3 fun j hj e => by have := h.bo; omega⟩, ⟨h3.mono fun _ _ e => .inr e, fun _ e => .inl e⟩⟩
end
end Go.Proofs.YtgdokpfepfmbmaaDoor
