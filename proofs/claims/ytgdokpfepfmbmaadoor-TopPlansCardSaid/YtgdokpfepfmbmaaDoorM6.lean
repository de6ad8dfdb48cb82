/- heap: New, Len, Peek, Pop; heap.Pop; math/bits.Mul by one; slices.Repeat of one int; path: what a search holds in memory; path: (*plan).dist; path.Dist; slices.Index, slices.Contains of ints; carfaxref03.dock, lane, beside; Floors, plain: which lanes can be reached, by rounds. No function of the program; carfaxref03.reached; Floors, plain: docks, counted. No function of the program. No condition. -/
import Derived.Test.YtgdokpfepfmbmaaDoorM5
import Derived.StillTailTactics
import Derived.BigRegion
import Derived.Test.YtgdokpfepfmbmaaDoorM4
import Derived.Deep.LoopGhost
import Derived.Deep.CutBlock
import Derived.Deep.DeepCutAuto
import Derived.Deep.Cut
import Derived.Deep.CutRange
import Derived.Test.YtgdokpfepfmbmaaDoorM3

namespace Go.Proofs.YtgdokpfepfmbmaaDoor
set_option linter.unusedVariables false
set_option linter.unusedSimpArgs false
open Go.RowKit

theorem hpnew_any (w : World) : Calls Tryd.prog 69 #[] w fun e w' => e = .returned (.pointer (some ⟨w.heap.size, 0, none⟩)) ∧ HpM w.heap.size (.slice none 0 0) 0 [] w' ∧ Kp No w w' ∧ w'.heap.size = w.heap.size + 1 := by
  have H := Lib.hid (show HpM w.heap.size (.slice none 0 0) 0 [] (w.alloc (.cells #[.slice none 0 0, .int .u64 0] 157)) from
    ⟨[], List.Perm.refl _, HeapO.nil, blk_new w _, Own.nil _ _ _, by simp [Value.ownBlock]⟩)
  go_enter Tryd.func69, Tryd.ntmps69
  go_wp2_with fail
  go_ret
  exact ⟨rfl, H.out, (Kp.refl _ _).alloc _, by simp⟩
set_option maxRecDepth 100000 in
theorem hplen_any {p nx : Nat} {V : Value} {E : List Ent} {w : World} (h : HpR p V nx E w) : Calls Tryd.prog 105 #[.pointer (some ⟨p, 0, none⟩)] w fun e w' => e = .returned (.int .i64 (E.length : Int)) ∧ w' = w := by
  obtain ⟨A, c, rfl⟩ := h.own.rd.shape
  have p0 : w.cell? ⟨p, 0, none⟩ = some (.slice A E.length c) := h.c0
  obtain ⟨n, hn⟩ : ∃ n, n = E.length := ⟨_, rfl⟩
  rw [← hn] at p0 ⊢
  clear h hn
  go_enter Tryd.func105, Tryd.ntmps105
  go_wp2_with fail
  go_ret
  exact ⟨rfl, rfl⟩
def topV (E : List Ent) : Value := match E with
  | [] => .tuple #[.agg #[.int .i64 0, .int .i64 0], .bool false]
  | a :: _ => .tuple #[.agg #[.int .i64 a.k, .int .i64 a.v], .bool true]
theorem box_set2 {w : World} {b : Nat} {a0 a1 : Value} {t : TypeId} (h : w.heap[b]? = some (.cells #[a0, a1] t (0, 0))) (v0 v1 : Value) : ((w.setCell ⟨b, 0, none⟩ v0).setCell ⟨b, 1, none⟩ v1).heap[b]? = some (.cells #[v0, v1] t (0, 0)) := by
  have := blk_set (blk_set h 0 v0) 1 v1
  simpa using this
theorem box_at {w : World} {b i : Nat} {cs : Array Value} {t : TypeId} (h : w.heap[b]? = some (.cells cs t (0, 0))) (hi : i < cs.size) (v : Value) : (w.setCell ⟨b, i, none⟩ v).cell? ⟨b, i, none⟩ = some v := by
  rw [blk_cell (blk_set h i v)]; simp [hi]
set_option maxHeartbeats 1000000 in
set_option maxRecDepth 100000 in
theorem hppeek_any {p nx : Nat} {V : Value} {E : List Ent} {w : World} (h : HpR p V nx E w) : Calls Tryd.prog 91 #[.pointer (some ⟨p, 0, none⟩)] w fun e w' => e = .returned (topV E) ∧ Kp No w w' := by
  obtain ⟨bx, hbx⟩ : ∃ bx, bx = w.heap.size := ⟨_, rfl⟩
  obtain ⟨w1, hw1⟩ : ∃ w1, w1 = w.alloc (.cells #[.int .i64 0, .int .i64 0] 126) := ⟨_, rfl⟩
  have HW := Lib.hid hw1
  have K1 := Lib.hid (show Kp No w w1 by rw [hw1]; exact (Kp.refl _ _).alloc _)
  have BX := Lib.hid (show w1.heap[w.heap.size]? = some (.cells #[.int .i64 0, .int .i64 0] 126 (0, 0)) by rw [hw1]; exact blk_new w _)
  have H1 := Lib.hid (h.no K1.out)
  have hpl := h.lt
  have HLN := Lib.hid (hplen_any H1.out)
  obtain ⟨A, c, rfl⟩ := h.own.rd.shape
  have p0 : w1.cell? ⟨p, 0, none⟩ = some (.slice A E.length c) := H1.out.c0
  have hf0 : w1.frozen? ⟨w.heap.size, 0, none⟩ = false := blk_free BX.out 0
  have hf1 : w1.frozen? ⟨w.heap.size, 1, none⟩ = false := blk_free BX.out 1
  have hg0 : w1.cell? ⟨w.heap.size, 0, none⟩ = some (.int .i64 0) := blk_cell BX.out 0
  have hg1 : w1.cell? ⟨w.heap.size, 1, none⟩ = some (.int .i64 0) := blk_cell BX.out 1
  have hs0 := fun v => box_at (i := 0) BX.out (by decide) v
  have hs1 := fun v0 v => box_at (i := 1) (blk_set BX.out 0 v0) (by simp) v
  have KE := Lib.hid (fun (v0 v1 : Value) => show Kp No w ((w1.setCell ⟨w.heap.size, 0, none⟩ v0).setCell ⟨w.heap.size, 1, none⟩ v1) from
    (K1.out.setCell (p := ⟨w.heap.size, 0, none⟩) (fun e => absurd e (Nat.lt_irrefl _)) _).setCell (p := ⟨w.heap.size, 1, none⟩) (fun e => absurd e (Nat.lt_irrefl _)) _)
  clear h hbx hw1
  rcases E with _ | ⟨a, E⟩
  · go_enter Tryd.func91, Tryd.ntmps91
    go_wp2_with (go_at_call 105; rw [← HW.out]; refine HLN.out.mono ?_; rintro e wz ⟨rfl, hwz⟩; rw [hwz]; clear hwz)
    exact bodyPost_ret (v := .tuple #[.agg #[.int .i64 0, .int .i64 0], .bool false]) (by simp [results, Tryd.results91, go_sem, hs0, hs1]) rfl ⟨rfl, KE.out _ _⟩
  · rcases H1.out.own.b with ⟨_, he⟩ | ⟨g, cap', hv, _, _, _⟩
    · simp at he
    simp only [Value.slice.injEq] at hv
    obtain ⟨rfl, hzz, rfl⟩ := hv
    clear hzz
    obtain ⟨a0, a1, a2⟩ := ownH_at H1.out.own (i := 0) (x := a) rfl
    simp only [Nat.zero_mul, Nat.zero_add] at a0 a1 a2
    obtain ⟨n, hn⟩ : ∃ n, n = (a :: E).length := ⟨_, rfl⟩
    have hn0 : 0 < n := by rw [hn]; simp
    have hn0b : ((n : Int) == 0) = false := by simp; omega
    have hn0c : (n == 0) = false := by simp; omega
    rw [← hn] at HLN p0
    have hgw := H1.out.own.lt (g := g) rfl
    clear hn
    go_enter Tryd.func91, Tryd.ntmps91
    go_wp2_with (go_at_call 105; rw [← HW.out]; refine HLN.out.mono ?_; rintro e wz ⟨rfl, hwz⟩; rw [hwz]; clear hwz)
    exact bodyPost_ret (v := .tuple #[.agg #[.int .i64 a.k, .int .i64 a.v], .bool true]) (by simp [results, Tryd.results91, go_sem, hs0, hs1]) rfl ⟨rfl, KE.out _ _⟩
end Go.Proofs.YtgdokpfepfmbmaaDoor

namespace Go.Proofs.YtgdokpfepfmbmaaDoor
set_option linter.unusedVariables false
set_option linter.unusedSimpArgs false
open Go.RowKit

/-- What Pop answers, of a heap that holds M. -/
def HpO (p nx : Nat) (V : Value) (M : List Ent) (w : World) (e : Ending) (w' : World) : Prop :=
  (M = [] ∧ e = .returned (.tuple #[.agg #[.int .i64 0, .int .i64 0], .bool false]) ∧ HpM p V nx [] w' ∧ Kp No w w') ∨
  ∃ a M' V', M.Perm (a :: M') ∧ (∀ y ∈ M', ¬ y.lt a) ∧ e = .returned (.tuple #[.agg #[.int .i64 a.k, .int .i64 a.v], .bool true]) ∧ HpM p V' nx M' w' ∧ HpP p V V' w w'
set_option maxHeartbeats 1000000 in
set_option maxRecDepth 100000 in
theorem hppop_any {p nx : Nat} {V : Value} {M : List Ent} {w : World} (h : HpM p V nx M w) (hM : M.length ≤ 2000000000) : Calls Tryd.prog 71 #[.pointer (some ⟨p, 0, none⟩)] w (HpO p nx V M w) := by
  obtain ⟨E, hp, ho, hr⟩ := h
  have hEl : E.length ≤ 2000000000 := by rw [hp.length_eq]; exact hM
  have HP := Lib.hid hp; have HO := Lib.hid ho
  obtain ⟨w1, hw1⟩ : ∃ w1, w1 = w.alloc (.cells #[.int .i64 0, .int .i64 0] 126) := ⟨_, rfl⟩
  have HW := Lib.hid hw1
  have K1 := Lib.hid (show Kp No w w1 by rw [hw1]; exact (Kp.refl _ _).alloc _)
  have BX := Lib.hid (show w1.heap[w.heap.size]? = some (.cells #[.int .i64 0, .int .i64 0] 126 (0, 0)) by rw [hw1]; exact blk_new w _)
  have H1 := Lib.hid (hr.no K1.out)
  have hpl := hr.lt
  have HOW := Lib.hid (fun g (hg : V.ownBlock = some g) => hr.own.lt hg)
  have HPK := Lib.hid (hppeek_any H1.out)
  clear hp ho hr hw1 hM
  rcases E with _ | ⟨a, E⟩
  · have HM := Lib.hid (show M = [] from (List.Perm.nil_eq HP.out).symm)
    unfold topV at HPK
    simp only at HPK
    go_enter Tryd.func71, Tryd.ntmps71
    go_wp2_with fail
    rw [← HW.out]
    refine HPK.out.mono ?_
    rintro e w2 ⟨rfl, k2⟩
    have K2 := Lib.hid (k2.alloc (.cells #[.int .i64 0, .int .i64 0] 126))
    obtain ⟨w3, hw3⟩ : ∃ w3, w3 = w2.alloc (.cells #[.int .i64 0, .int .i64 0] 126) := ⟨_, rfl⟩
    rw [← hw3] at K2
    have BX3 := Lib.hid (K2.out.blk BX.out (no_no _))
    have HR3 := Lib.hid (H1.out.no K2.out)
    have hf0 : w3.frozen? ⟨w.heap.size, 0, none⟩ = false := blk_free BX3.out 0
    have hf1 : w3.frozen? ⟨w.heap.size, 1, none⟩ = false := blk_free BX3.out 1
    have hg0 : w3.cell? ⟨w.heap.size, 0, none⟩ = some (.int .i64 0) := blk_cell BX3.out 0
    have hg1 : w3.cell? ⟨w.heap.size, 1, none⟩ = some (.int .i64 0) := blk_cell BX3.out 1
    have hs0 := fun v => box_at (i := 0) BX3.out (by decide) v
    have hs1 := fun v0 v => box_at (i := 1) (blk_set BX3.out 0 v0) (by simp) v
    have hsz := k2.size
    have hsz1 : w1.heap.size = w.heap.size + 1 := by rw [HW.out]; simp
    have KE := Lib.hid (fun (v0 v1 : Value) => show Kp No w ((w3.setCell ⟨w.heap.size, 0, none⟩ v0).setCell ⟨w.heap.size, 1, none⟩ v1) from
      ((K1.out.no K2.out).setCell (p := ⟨w.heap.size, 0, none⟩) (fun e => absurd e (Nat.lt_irrefl _)) _).setCell (p := ⟨w.heap.size, 1, none⟩) (fun e => absurd e (Nat.lt_irrefl _)) _)
    have hx0 : w3.cell? ⟨w2.heap.size, 0, none⟩ = some (.int .i64 0) := by rw [hw3]; exact blk_cell (blk_new w2 _) 0
    have hx1 : w3.cell? ⟨w2.heap.size, 1, none⟩ = some (.int .i64 0) := by rw [hw3]; exact blk_cell (blk_new w2 _) 1
    have HW3 := Lib.hid hw3
    rw [hw3] at hf0 hf1 hg0 hg1 hs0 hs1 hx0 hx1
    clear hw3 k2
    go_wp2_with fail
    refine bodyPost_ret (v := .tuple #[.agg #[.int .i64 0, .int .i64 0], .bool false]) (by simp [results, Tryd.results71, go_sem, hs0, hs1]) rfl (.inl ⟨HM.out, rfl, ?_, ?_⟩)
    · have := KE.out (.int .i64 0) (.int .i64 0)
      rw [HW3.out] at this
      refine ⟨[], List.Perm.refl _, HeapO.nil, ?_⟩
      have hq := HR3.out
      rw [HW3.out] at hq
      refine hq.kp (S := fun k => k = w.heap.size) (((Kp.refl (fun k => k = w.heap.size) _).setCell (p := ⟨w.heap.size, 0, none⟩) (fun _ => rfl) _).setCell (p := ⟨w.heap.size, 1, none⟩) (fun _ => rfl) _) (by omega) (fun g hg e => ?_)
      have := HOW.out g hg; omega
    · have := KE.out (.int .i64 0) (.int .i64 0)
      rw [HW3.out] at this
      exact this
  · rcases H1.out.own.b with ⟨_, he⟩ | ⟨g, cap', hv, _, hlc, _⟩
    · simp at he
    obtain ⟨n, hn⟩ : ∃ n, n = E.length := ⟨_, rfl⟩
    have hn1 : (a :: E).length = n + 1 := by rw [hn]; rfl
    rw [hn1] at hv hEl hlc
    subst hv
    have HN1 := Lib.hid hn1
    obtain ⟨b, hb⟩ : ∃ b, (a :: E)[n]? = some b := ⟨_, List.getElem?_eq_getElem (by rw [hn1]; omega)⟩
    have HB := Lib.hid hb
    have hgw := HOW.out g rfl
    have hgp : g ≠ p := fun e => H1.out.ne (by rw [e]; rfl)
    have hw : IntKind.i64.wrap (((n + 1 : Nat) : Int) - 1) = (n : Int) := by rw [IntWalk.i64_in _ (by omega)]; omega
    have hw2 : IntKind.i64.wrap ((n : Int) + 1 - 1) = (n : Int) := by rw [IntWalk.i64_in _ (by omega)]; omega
    unfold topV at HPK
    simp only at HPK
    obtain ⟨hdn, hpm⟩ := HO.out.cut hn1 rfl hb
    have HDN := Lib.hid hdn; have HPM := Lib.hid hpm
    have hsl := fun w => run_slice_hi elH g 0 (n + 1) cap' n (by omega) (n : Int) rfl w
    clear hn hn1 hb hdn hpm
    go_enter Tryd.func71, Tryd.ntmps71
    go_wp2_with fail
    rw [← HW.out]
    refine HPK.out.mono ?_
    rintro e w2 ⟨rfl, k2⟩
    obtain ⟨b4, hb4⟩ : ∃ b4, b4 = w2.heap.size := ⟨_, rfl⟩
    obtain ⟨w3, hw3⟩ : ∃ w3, w3 = w2.alloc (.cells #[.int .i64 a.k, .int .i64 a.v] 126) := ⟨_, rfl⟩
    have K3 := Lib.hid (show Kp No w1 w3 by rw [hw3]; exact k2.alloc _)
    have BX3 := Lib.hid (K3.out.blk BX.out (no_no _))
    have B4 := Lib.hid (show w3.heap[b4]? = some (.cells #[.int .i64 a.k, .int .i64 a.v] 126 (0, 0)) by rw [hw3, hb4]; exact blk_new w2 _)
    have HR3 := Lib.hid (H1.out.no K3.out)
    have hsz1 : w1.heap.size = w.heap.size + 1 := by rw [HW.out]; simp
    have hb4s : w.heap.size < b4 := by rw [hb4]; have := k2.size; omega
    have hp0 : w3.cell? ⟨p, 0, none⟩ = some (.slice (some ⟨g, 0, none⟩) (n + 1) cap') := HR3.out.c0
    have HW3 := Lib.hid hw3; have HB4 := Lib.hid hb4
    rw [hw3] at hp0
    clear k2 hw3 hb4
    go_wp2_with fail
    rw [← HW3.out, ← HB4.out]
    refine (hpswap_any HR3.out 0 n a b rfl HB.out).mono ?_
    rintro e w5 ⟨rfl, s5⟩
    have S5 := Lib.hid s5
    have hq0 : w5.cell? ⟨p, 0, none⟩ = some (.slice (some ⟨g, 0, none⟩) (n + 1) cap') := s5.r.c0
    have hqf : w5.frozen? ⟨p, 0, none⟩ = false := s5.r.f 0
    -- behind the cut
    have R6 := Lib.hid (show HpR p (.slice (some ⟨g, 0, none⟩) n cap') nx ((swapL (a :: E) 0 n a b).take n) (w5.setCell ⟨p, 0, none⟩ (.slice (some ⟨g, 0, none⟩) n cap')) by
      have hl : ((swapL (a :: E) 0 n a b).take n).length = n := by rw [List.length_take, swapL_len, HN1.out]; omega
      rcases s5.r.own.b with ⟨hv, _⟩ | ⟨g', c', hv, hcm, _, hob⟩
      · simp at hv
      simp only [Value.slice.injEq, Option.some.injEq, Addr.mk.injEq] at hv
      obtain ⟨⟨rfl, _, _⟩, _, rfl⟩ := hv
      have o6 := (hob.take n).own hcm
      rw [hl] at o6
      refine ⟨by have := blk_set s5.r.blk 0 (.slice (some ⟨g, 0, none⟩) n cap'); simpa using this, o6.kp ((Kp.refl (fun j => j = p) w5).setCell (p := ⟨p, 0, none⟩) (fun _ => rfl) _) (fun g' hg' e => hgp (by simp [Value.ownBlock] at hg'; rw [hg', e])), fun e => hgp (by simpa [Value.ownBlock] using e)⟩)
    have K6 := Lib.hid (show Kp (fun j => j = p ∨ (Value.slice (some ⟨g, 0, none⟩) (n + 1) cap').ownBlock = some j) w3 (w5.setCell ⟨p, 0, none⟩ (.slice (some ⟨g, 0, none⟩) n cap')) from
      (s5.kp.mono (fun _ _ h => .inr h)).setCell (p := ⟨p, 0, none⟩) (fun _ => .inl rfl) _)
    clear s5 hp0
    go_wp2_with fail
    refine (hpdown_any R6.out (by rw [List.length_take, swapL_len, HN1.out]; omega) HDN.out).mono ?_
    rintro e w7 ⟨rfl, E', hp7, ho7, s7⟩
    have hgg : g ≠ w.heap.size := by omega
    have K7 := Lib.hid (show Kp (fun j => j = p ∨ (Value.slice (some ⟨g, 0, none⟩) (n + 1) cap').ownBlock = some j) w3 w7 from K6.out.trans (s7.kp.mono (fun _ _ h => .inr h)))
    have HP7 := Lib.hid hp7; have HO7 := Lib.hid ho7; have S7 := Lib.hid s7
    have BX7 := Lib.hid (K7.out.blk BX3.out (by rintro (e | e); · omega
                                                · simp [Value.ownBlock] at e; omega))
    have hgb4 : g ≠ b4 := by omega
    have B47 := Lib.hid (K7.out.blk B4.out (by rintro (e | e); · omega
                                               · simp [Value.ownBlock] at e; omega))
    have hx0 : w7.cell? ⟨b4, 0, none⟩ = some (.int .i64 a.k) := blk_cell B47.out 0
    have hx1 : w7.cell? ⟨b4, 1, none⟩ = some (.int .i64 a.v) := blk_cell B47.out 1
    have hf0 : w7.frozen? ⟨w.heap.size, 0, none⟩ = false := blk_free BX7.out 0
    have hf1 : w7.frozen? ⟨w.heap.size, 1, none⟩ = false := blk_free BX7.out 1
    have hg0 : w7.cell? ⟨w.heap.size, 0, none⟩ = some (.int .i64 0) := blk_cell BX7.out 0
    have hg1 : w7.cell? ⟨w.heap.size, 1, none⟩ = some (.int .i64 0) := blk_cell BX7.out 1
    have hs0 := fun v => box_at (i := 0) BX7.out (by decide) v
    have hs1 := fun v0 v => box_at (i := 1) (blk_set BX7.out 0 v0) (by simp) v
    clear hp7 ho7 s7 hq0 hqf
    have KW := Lib.hid (show Kp (fun j => j = p ∨ (Value.slice (some ⟨g, 0, none⟩) (n + 1) cap').ownBlock = some j) w ((w7.setCell ⟨w.heap.size, 0, none⟩ (.int .i64 a.k)).setCell ⟨w.heap.size, 1, none⟩ (.int .i64 a.v)) from by
      have k0 : Kp (fun j => j = p ∨ (Value.slice (some ⟨g, 0, none⟩) (n + 1) cap').ownBlock = some j) w w7 := ((K1.out.no K3.out).mono (fun _ _ h => h.elim)).trans K7.out
      exact (k0.setCell (p := ⟨w.heap.size, 0, none⟩) (fun e => absurd e (Nat.lt_irrefl _)) _).setCell (p := ⟨w.heap.size, 1, none⟩) (fun e => absurd e (Nat.lt_irrefl _)) _)
    have HF := Lib.hid (show HpM p (.slice (some ⟨g, 0, none⟩) n cap') nx E' ((w7.setCell ⟨w.heap.size, 0, none⟩ (.int .i64 a.k)).setCell ⟨w.heap.size, 1, none⟩ (.int .i64 a.v)) from
      ⟨E', List.Perm.refl _, HO7.out, S7.out.r.kp (S := fun k => k = w.heap.size) (((Kp.refl (fun k => k = w.heap.size) _).setCell (p := ⟨w.heap.size, 0, none⟩) (fun _ => rfl) _).setCell (p := ⟨w.heap.size, 1, none⟩) (fun _ => rfl) _) (by omega) (fun g' hg' e => by simp [Value.ownBlock] at hg'; omega)⟩)
    have HPP := Lib.hid (show M.Perm (a :: E') from HP.out.symm.trans (HPM.out.trans (List.Perm.cons a HP7.out.symm)))
    have HMN := Lib.hid (show ∀ y ∈ E', ¬ y.lt a from fun y hy => by
      have h1 : y ∈ a :: E := HPM.out.mem_iff.2 (List.mem_cons_of_mem _ (HP7.out.mem_iff.1 hy))
      obtain ⟨j, hj⟩ := List.getElem?_of_mem h1
      exact HO.out.min rfl j y hj)
    go_wp2_with fail
    exact bodyPost_ret (v := .tuple #[.agg #[.int .i64 a.k, .int .i64 a.v], .bool true]) (by simp [results, Tryd.results71, go_sem, hs0, hs1]) rfl (.inr ⟨a, E', _, HPP.out, HMN.out, rfl, HF.out, KW.out, fun g' hg' => .inl hg'⟩)
end Go.Proofs.YtgdokpfepfmbmaaDoor

namespace Go.Proofs.YtgdokpfepfmbmaaDoor
set_option linter.unusedVariables false
set_option linter.unusedSimpArgs false
open Go.RowKit

theorem stp_runCopy {P : Program} {w w' : World} {ops : Array Oper} {o : Oper} {a : Act} {K' : Act → World → Prop} {Q : Exit → Act → World → Prop} {Ex : Prop} (hgd : o.guard = none) (s x : Operand) (t u : TypeId)
    (ho : o.op = .call { callee := .builtin .copy, args := #[s, x], argTypes := #[t, u] }) {v xv v' : Value} (hs : a.eval s = v) (hxv : a.eval x = xv)
    (hr : ∀ ty, (Builtin.copy_ #[t, u] ty #[v, xv]).run P w = .ok v' w') (h : K' (a.put o.dst v') w') : if Region.wanted o (yielded ops a.tmps) = true then Oper.wp P o a w K' Q else Ex := by
  have hw : Region.wanted o (yielded ops a.tmps) = true := by simp [Region.wanted, hgd]
  rw [if_pos hw]
  unfold Oper.wp execOp
  simp only [ho, resolve, invoke, builtin, Sem.run_bind, Sem.run_pure, Result.andThen_ok, List.map_toArray, List.map_cons, List.map_nil, hs, hxv, hr]
  exact h
theorem bits_low (n : Nat) (hn : n ≤ 1000000) : bits .and .u64 (n : Int) 4294967295 = (n : Int) := by
  show IntKind.u64.wrap ((BitVec.ofInt 64 (n : Int) &&& BitVec.ofInt 64 (4294967295 : Int)).toNat : Int) = _
  have h1 : (BitVec.ofInt 64 (n : Int)).toNat = n := by
    rw [BitVec.ofInt_natCast, BitVec.toNat_ofNat]; exact Nat.mod_eq_of_lt (by omega)
  have h2 : (BitVec.ofInt 64 (4294967295 : Int)).toNat = 4294967295 := by decide
  rw [BitVec.toNat_and, h1, h2, show (4294967295 : Nat) = 2 ^ 32 - 1 from rfl, Nat.and_two_pow_sub_one_eq_mod, Nat.mod_eq_of_lt (by omega)]
  exact IntWalk.u64_in _ (by omega)
theorem run_mkI (n : Nat) (hn : n ≤ 1000000) (w : World) : (Instr.makeSlice 39 (.int .i64 (n : Int)) (.int .i64 (n : Int))).run Tryd.prog w = .ok (.slice (some ⟨w.heap.size, 0, none⟩) n n) (w.alloc (.cells ((List.replicate n (0 : Int)).map (Value.int .i64)).toArray 3)) :=
  run_mk elI IK1 0 (fun z hz => by have h : (Tryd.prog.info? 3).bind (·.zero) = some (.int .i64 0) := by kernel_rfl
                                   rw [h] at hz; cases hz; rfl) rfl n hn (by decide) w
set_option maxRecDepth 100000 in
theorem mul64_one (n : Nat) (hn : n ≤ 1000000) (w : World) : Calls Tryd.prog 109 #[.int .u64 1, .int .u64 (n : Int)] w fun e w' => e = .returned (.tuple #[.int .u64 0, .int .u64 (n : Int)]) ∧ w' = w := by
  have h1 : bits .and .u64 1 4294967295 = 1 := by kernel_rfl
  have h2 := bits_low n hn
  have h3 : (n : Int) / 4294967296 = 0 := by omega
  have h4 : IntKind.u64.wrap (n : Int) = n := IntWalk.u64_in _ (by omega)
  have h0 : bits .and .u64 0 4294967295 = 0 := by kernel_rfl
  have hw : IntKind.u64.wrap 0 = 0 := by kernel_rfl
  go_enter Tryd.func109, Tryd.ntmps109
  go_wp2_with fail
  go_ret2
  simp [h1, h2, h3, h4, h0, hw]
set_option maxRecDepth 100000 in
theorem mul_one (n : Nat) (hn : n ≤ 1000000) (w : World) : Calls Tryd.prog 98 #[.int .u64 1, .int .u64 (n : Int)] w fun e w' => e = .returned (.tuple #[.int .u64 0, .int .u64 (n : Int)]) ∧ w' = w := by
  have HM := Lib.hid (mul64_one n hn)
  go_enter Tryd.func98, Tryd.ntmps98
  go_wp2_with (go_at_call 109; refine (HM.out _).mono ?_; rintro e w1 ⟨rfl, rfl⟩)
  go_ret2
  exact ⟨rfl, rfl⟩
theorem OwnB.blk1 {α : Type} {K : Kd α} {enc : α → Value} (hK : K1 K enc) {e : TypeId} {w : World} {g cap : Nat} {l : List α} (h : OwnB K e w g cap l) (hl : l.length = cap) : Blk enc e w g l := by
  obtain ⟨cs, h1, h2, h3, h4⟩ := h
  unfold Blk
  rw [h1]
  congr 2
  rw [hK.sz, hK.encs] at h4
  rw [hK.sz] at h3
  rw [List.take_of_length_le (by simp; omega)] at h4
  rw [← h4]
theorem repI_step {x : Int} {n k : Nat} {w : World} {g : Nat} (h1 : 1 ≤ k) (hk : k < n) (h : OwnB IK 3 w g n (List.replicate k x ++ List.replicate (n - k) (0 : Int))) :
    ∃ w' m, 1 ≤ m ∧ k + m ≤ n ∧ (∀ o', (0 < m → o' = k * IK.sz) → ∀ ty, (Builtin.copy_ #[39, 39] ty #[.slice (some ⟨g, o', none⟩) (n - k) (n - k), .slice (some ⟨g, 0, none⟩) k n]).run Tryd.prog w = .ok (.int .i64 (m : Int)) w') ∧ OwnB IK 3 w' g n (List.replicate (k + m) x ++ List.replicate (n - (k + m)) (0 : Int)) ∧ Kp (fun j => j = g) w w' := by
  obtain ⟨m, hm⟩ : ∃ m, m = min k (n - k) := ⟨_, rfl⟩
  obtain ⟨w', hr, ow, kp⟩ := h.copied elI (off := k) (List.replicate m x) (by simp) (by simp; omega) (k * IK.sz) (n - k) (n - k) (some ⟨g, 0, none⟩) k n (by simp [hm]) (fun _ => rfl) (fun _ => ⟨g, 0, rfl, fun j u hu => by
    rw [Nat.zero_add]
    refine h.cells j u ?_
    have hj : j < m := by
      have := (List.getElem?_eq_some_iff.1 hu).1
      rw [IK.length_encs, List.length_replicate] at this
      simpa [IK] using this
    rw [IK1.encs] at hu ⊢
    rw [List.map_append, List.getElem?_append_left (by simp; omega)]
    rw [List.getElem?_map, List.getElem?_replicate, if_pos hj] at hu
    rw [List.getElem?_map, List.getElem?_replicate, if_pos (by omega)]
    exact hu⟩)
  refine ⟨w', m, by omega, by omega, fun o' ho ty => ?_, ?_, kp⟩
  · rw [ho (by omega), hr ty, List.length_replicate]; rfl
  · have e : (List.replicate k x ++ List.replicate (n - k) (0 : Int)).take k ++ List.replicate m x ++ (List.replicate k x ++ List.replicate (n - k) (0 : Int)).drop (k + (List.replicate m x).length) = List.replicate (k + m) x ++ List.replicate (n - (k + m)) (0 : Int) := by
      rw [List.take_left' (by simp), List.length_replicate, List.drop_append, List.drop_eq_nil_of_le (by simp), List.nil_append, List.length_replicate, List.drop_replicate, ← List.replicate_append_replicate]
      congr 2
      omega
    rw [e] at ow
    exact ow
set_option maxRecDepth 100000 in
theorem repI_any (x : Int) (n : Nat) (h0 : 1 ≤ n) (hn : n ≤ 1000000) {w : World} {g0 c0 : Nat} (hr : Rd IK w (.slice (some ⟨g0, 0, none⟩) 1 c0) [x]) :
    Calls Tryd.prog 81 #[.slice (some ⟨g0, 0, none⟩) 1 c0, .int .i64 (n : Int)] w fun e w' => ∃ g, e = .returned (.slice (some ⟨g, 0, none⟩) n n) ∧ Blk (Value.int .i64) 3 w' g (List.replicate n x) ∧ w.heap.size ≤ g ∧ Kp No w w' := by
  have HM := Lib.hid (mul_one n hn)
  have HR := Lib.hid hr
  have hwn : IntKind.u64.wrap (n : Int) = n := IntWalk.u64_in _ (by omega)
  have hwi : IntKind.i64.wrap (n : Int) = n := IntWalk.i64_in _ (by omega)
  have hw1 : IntKind.u64.wrap 1 = 1 := by kernel_rfl
  have hmk := run_mkI n hn
  clear hr
  obtain ⟨g, hg⟩ : ∃ g, g = w.heap.size := ⟨_, rfl⟩
  have ow : OwnB IK 3 (w.alloc (.cells (Array.replicate n (.int .i64 0)) 3)) g n (List.replicate 0 x ++ List.replicate (n - 0) (0 : Int)) := by
    rw [hg]
    have h : Blk (Value.int .i64) 3 (w.alloc (.cells ((List.replicate n (0 : Int)).map (Value.int .i64)).toArray 3)) w.heap.size (List.replicate n 0) := blk_new w _
    have := h.ownB IK1
    simpa using this
  have ow := ow.copied elI (off := 0) [x] (by simp) (by simp; omega) 0 n n (some ⟨g0, 0, none⟩) 1 c0 (by simp; omega) (fun _ => rfl) (fun _ => ⟨g0, 0, rfl, fun j u hu => by
    have := (HR.out.alloc (.cells (Array.replicate n (.int .i64 0)) 3)).cells g0 0 1 c0 rfl j u hu
    simpa using this⟩)
  obtain ⟨w2, hr2, ow2, kp2⟩ := ow
  have ow2' : OwnB IK 3 w2 g n (List.replicate 1 x ++ List.replicate (n - 1) (0 : Int)) := by
    simpa [List.drop_replicate] using ow2
  have KP2 := Lib.hid (show Kp No w w2 from ((Kp.refl No w).alloc _).trans' kp2 (fun j hj e => by omega))
  have HR2 := Lib.hid hr2; have OW2 := Lib.hid ow2'
  have hgl : w.heap.size ≤ g := by omega
  clear ow ow2 ow2' kp2 hr2
  rw [hg] at HR2
  have HG := Lib.hid hg
  clear hg
  go_enter Tryd.func81, Tryd.ntmps81
  go_wp2_with (first | (go_at_call 98; refine (HM.out _).mono ?_; rintro e wz ⟨rfl, hz⟩; rw [hz]; clear hz) | (refine wpl_runCopy rfl (.tmp 31) (.tmp 32) 39 39 rfl rfl rfl HR2.out ?_))
  rw [← HG.out]
  go_loopg [8] n (fun g_ kv wx => ∃ k : Nat, g_ = n + 1 - k ∧ kv = .int .i64 k ∧ 1 ≤ k ∧ k ≤ n ∧ OwnB IK 3 wx g n (List.replicate k x ++ List.replicate (n - k) (0 : Int)) ∧ Kp No w wx)
  case atStart => exact ⟨1, by omega, rfl, by omega, h0, OW2.out, KP2.out⟩
  case round =>
    obtain ⟨k, hgk, rfl, hk1, hkn, ow, kp⟩ := hrel
    have KP := Lib.hid kp
    by_cases hlt : k < n
    · have hltI : (k : Int) < (n : Int) := by omega
      obtain ⟨w3, m, hm1, hm2, hr3, ow3, kp3⟩ := repI_step (w := wr.drew) hk1 hlt ow
      have hnk : ¬ n = k := by omega
      have hr4 := hr3 k (fun _ => by show k = k * 1; omega)
      have HR3 := Lib.hid hr4; have OW3 := Lib.hid ow3; have KP3 := Lib.hid kp3
      have hwm : IntKind.i64.wrap ((k : Int) + (m : Int)) = (k : Int) + (m : Int) := IntWalk.i64_in _ (by omega)
      have K3' := Lib.hid (show Kp No w w3 from KP.out.drew.trans' kp3 (fun j hj e => by omega))
      clear ow kp hr3 hr4 ow3 kp3 hlt
      go_wp2_with fail
      go_region_law (refine stp_runCopy rfl (.tmp 41) (.tmp 44) 39 39 rfl (v := .slice (some ⟨g, k, none⟩) (n - k) (n - k)) (xv := .slice (some ⟨g, 0, none⟩) k n) (by simp [Act.eval, Act.put, hnk]) (by simp [Act.eval, Act.put]) HR3.out ?_)
      all_goals
        go_wp2_with fail
        go_roundg (n + 1 - (k + m))
        case measure => omega
        case rel => exact ⟨k + m, rfl, by go_num, by omega, hm2, OW3.out.kp (Kp.refl No _) (no_no _), K3'.out.no (Kp.refl No _)⟩
    · obtain rfl : k = n := by omega
      have hd0 : ¬ (k : Int) < (k : Int) := by omega
      have OW := Lib.hid ow
      clear hlt ow kp
      go_wp2_with fail
      go_ret
      refine ⟨g, rfl, ?_, hgl, KP.out⟩
      have := OW.out
      rw [Nat.sub_self, List.replicate_zero, List.append_nil] at this
      exact this.blk1 IK1 (by simp)
end Go.Proofs.YtgdokpfepfmbmaaDoor

namespace Go.Proofs.YtgdokpfepfmbmaaDoor
set_option linter.unusedVariables false
set_option linter.unusedSimpArgs false
open Go.RowKit

theorem HpM.no {p nx : Nat} {V : Value} {M : List Ent} {w w' : World} (h : HpM p V nx M w) (hk : Kp No w w') : HpM p V nx M w' := let ⟨E, a, b, c⟩ := h; ⟨E, a, b, c.no hk⟩
theorem HpM.kp {S : Nat → Prop} {p nx : Nat} {V : Value} {M : List Ent} {w w' : World} (h : HpM p V nx M w) (hk : Kp S w w') (h1 : ¬ S p) (h2 : ∀ g, V.ownBlock = some g → ¬ S g) : HpM p V nx M w' := let ⟨E, a, b, c⟩ := h; ⟨E, a, b, c.kp hk h1 h2⟩
theorem HpM.lt {p nx : Nat} {V : Value} {M : List Ent} {w : World} (h : HpM p V nx M w) : p < w.heap.size := let ⟨E, a, b, c⟩ := h; c.lt
theorem HpM.vlt {p nx : Nat} {V : Value} {M : List Ent} {w : World} (h : HpM p V nx M w) : ∀ g, V.ownBlock = some g → g < w.heap.size := let ⟨E, a, b, c⟩ := h; fun g hg => c.own.lt hg
/-- Blocks gd, gb hold D, By; hp holds the heap, t of whose entries are gone. -/
structure DsW (w0 : World) (gd gb hp : Nat) (V : Value) (t : Nat) (D By : List Int) (P : List (Nat × Nat)) (w : World) : Prop where
  d : Blk (Value.int .i64) 3 w gd D
  b : Blk (Value.int .i64) 3 w gb By
  h : ∃ M, M.Perm ((entP P).drop t) ∧ HpM hp V P.length M w
  ne : gd ≠ gb ∧ gd ≠ hp ∧ gb ≠ hp
  nv : ∀ g, V.ownBlock = some g → g ≠ gd ∧ g ≠ gb ∧ g ≠ hp ∧ w0.heap.size ≤ g
  ge : w0.heap.size ≤ gd ∧ w0.heap.size ≤ gb ∧ w0.heap.size ≤ hp
  kp : Kp No w0 w
/-- ...and block bx the item at hand. -/
structure DsX (w0 : World) (gd gb hp bx : Nat) (V : Value) (t : Nat) (D By : List Int) (P : List (Nat × Nat)) (kx x : Int) (w : World) : Prop where
  s : DsW w0 gd gb hp V t D By P w
  it : w.heap[bx]? = some (.cells #[.int .i64 kx, .int .i64 x] 126 (0, 0))
  ne : bx ≠ gd ∧ bx ≠ gb ∧ bx ≠ hp ∧ w0.heap.size ≤ bx
  nv : V.ownBlock ≠ some bx
section
variable {w0 w w' : World} {gd gb hp bx t : Nat} {V : Value} {D By : List Int} {P : List (Nat × Nat)} {kx x : Int}
theorem DsW.no (h : DsW w0 gd gb hp V t D By P w) (hk : Kp No w w') : DsW w0 gd gb hp V t D By P w' :=
  ⟨h.d.kpNo hk, h.b.kpNo hk, let ⟨M, a, b⟩ := h.h; ⟨M, a, b.no hk⟩, h.ne, h.nv, h.ge, h.kp.no hk⟩
theorem DsX.no (h : DsX w0 gd gb hp bx V t D By P kx x w) (hk : Kp No w w') : DsX w0 gd gb hp bx V t D By P kx x w' := ⟨h.s.no hk, hk.blk h.it (no_no _), h.ne, h.nv⟩
theorem DsW.set (h : DsW w0 gd gb hp V t D By P w) (c : Nat) (d : Int) : DsW w0 gd gb hp V t (D.set c d) By P (w.setCell ⟨gd, c, none⟩ (.int .i64 d)) := by
  have hs := (Kp.refl (fun j => j = gd) w).setCell (p := ⟨gd, c, none⟩) (fun _ => rfl) (.int .i64 d)
  obtain ⟨M, a, b⟩ := h.h
  exact ⟨h.d.set c d, h.b.kp hs (fun e => h.ne.1 e.symm), ⟨M, a, b.kp hs (fun e => h.ne.2.1 e.symm) (fun g hg e => (h.nv g hg).1 e)⟩, h.ne, h.nv, h.ge, h.kp.trans' hs (fun j hj e => by have := h.ge.1; omega)⟩
theorem DsX.set2 (h : DsX w0 gd gb hp bx V t D By P kx x w) (c : Nat) (d b : Int) : DsX w0 gd gb hp bx V t (D.set c d) (By.set c b) P kx x ((w.setCell ⟨gd, c, none⟩ (.int .i64 d)).setCell ⟨gb, c, none⟩ (.int .i64 b)) := by
  have hs := (Kp.refl (fun j => j = gd) w).setCell (p := ⟨gd, c, none⟩) (fun _ => rfl) (.int .i64 d)
  have hs2 := (Kp.refl (fun j => j = gb) (w.setCell ⟨gd, c, none⟩ (.int .i64 d))).setCell (p := ⟨gb, c, none⟩) (fun _ => rfl) (.int .i64 b)
  have h1 := h.s.set c d
  obtain ⟨M, a, m⟩ := h1.h
  exact ⟨⟨h1.d.kp hs2 h.s.ne.1, h1.b.set c b, ⟨M, a, m.kp hs2 (fun e => h.s.ne.2.2 e.symm) (fun g hg e => (h.s.nv g hg).2.1 e)⟩, h1.ne, h1.nv, h1.ge, h1.kp.trans' hs2 (fun j hj e => by have := h.s.ge.2.1; omega)⟩, hs2.blk (hs.blk h.it h.ne.1) h.ne.2.1, h.ne, h.nv⟩
theorem pop_some {st : Nat → List Nat} {s n : Nat} {kx x : Nat} (h : DsW w0 gd gb hp V t D By P w) (hb : BfI st s n t D By P) (hn : n ≤ 1000) (hx : P[t]? = some (kx, x)) :
    Calls Tryd.prog 71 #[.pointer (some ⟨hp, 0, none⟩)] w fun e w' => ∃ V', e = .returned (.tuple #[.agg #[.int .i64 (kx : Int), .int .i64 (x : Int)], .bool true]) ∧ DsW w0 gd gb hp V' (t + 1) D By P w' ∧ HpP hp V V' w w' := by
  obtain ⟨M, hM, hh⟩ := h.h
  have hl := hM.length_eq
  have hPl := hb.len
  simp [entP_len] at hl
  refine (hppop_any hh (by omega)).mono ?_
  rintro e w' (⟨rfl, _⟩ | ⟨a, M', V', hp2, hmin, rfl, hh2, hpp⟩)
  · have := (List.getElem?_eq_some_iff.1 hx).1; simp at hl; omega
  · obtain ⟨kx', x', h1, rfl, h3⟩ := hb.pop hM hp2 hmin
    rw [hx] at h1; cases h1
    refine ⟨V', rfl, ⟨h.d.kp hpp.kp ?_, h.b.kp hpp.kp ?_, ⟨M', h3, hh2⟩, h.ne, fun g hg => ?_, h.ge, h.kp.trans' hpp.kp ?_⟩, hpp⟩
    · rintro (e | e)
      · exact h.ne.2.1 e
      · exact (h.nv _ e).1 rfl
    · rintro (e | e)
      · exact h.ne.2.2 e
      · exact (h.nv _ e).2.1 rfl
    · rcases hpp.ge g hg with e | e
      · exact h.nv g e
      · have := h.d.lt; have := h.b.lt; have := hh.lt; have := h.kp.size; omega
    · rintro j hj (e | e)
      · have := h.ge.2.2; omega
      · have := (h.nv _ e).2.2.2; omega
theorem pop_none {st : Nat → List Nat} {s n : Nat} (h : DsW w0 gd gb hp V t D By P w) (hb : BfI st s n t D By P) (hn : n ≤ 1000) (hx : P.length ≤ t) :
    Calls Tryd.prog 71 #[.pointer (some ⟨hp, 0, none⟩)] w fun e w' => e = .returned (.tuple #[.agg #[.int .i64 0, .int .i64 0], .bool false]) ∧ Kp No w w' := by
  obtain ⟨M, hM, hh⟩ := h.h
  rw [List.drop_eq_nil_of_le (by rw [entP_len]; exact hx)] at hM
  obtain rfl := hM.eq_nil
  refine (hppop_any hh (by simp)).mono ?_
  rintro e w' (⟨_, rfl, _, hk⟩ | ⟨a, M', V', hp2, _⟩)
  · exact ⟨rfl, hk⟩
  · have := hp2.length_eq; simp at this
theorem push_at {st : Nat → List Nat} {s n : Nat} (h : DsW w0 gd gb hp V t D By P w) (hl : P.length ≤ 1000) (ht : t ≤ P.length) (k c : Nat) (K : Int) (hK : K = (k : Int)) :
    Calls Tryd.prog 70 #[.pointer (some ⟨hp, 0, none⟩), .agg #[.int .i64 K, .int .i64 (c : Int)]] w fun e w' => e = .returned (.tuple #[]) ∧ ∃ V', DsW w0 gd gb hp V' t D By (P ++ [(k, c)]) w' ∧ HpP hp V V' w w' := by
  subst hK
  obtain ⟨M, hM, hh⟩ := h.h
  have hl2 := hM.length_eq
  simp [entP_len] at hl2
  refine (hppush_any hh (by omega) (by omega) k c).mono ?_
  rintro e w' ⟨rfl, V', hh2, hpp⟩
  refine ⟨rfl, V', ⟨h.d.kp hpp.kp ?_, h.b.kp hpp.kp ?_, ⟨_, ?_, by rw [List.length_append]; exact hh2⟩, h.ne, fun g hg => ?_, h.ge, h.kp.trans' hpp.kp ?_⟩, hpp⟩
  · rintro (e | e)
    · exact h.ne.2.1 e
    · exact (h.nv _ e).1 rfl
  · rintro (e | e)
    · exact h.ne.2.2 e
    · exact (h.nv _ e).2.1 rfl
  · rw [entP_app, List.drop_append_of_le_length (by rw [entP_len]; exact ht)]
    exact hM.append_right _
  · rcases hpp.ge g hg with e | e
    · exact h.nv g e
    · have := h.d.lt; have := h.b.lt; have := hh.lt; have := h.kp.size; omega
  · rintro j hj (e | e)
    · have := h.ge.2.2; omega
    · have := (h.nv _ e).2.2.2; omega
theorem DsX.by {V' : Value} {P' : List (Nat × Nat)} {t' : Nat} (h : DsX w0 gd gb hp bx V t D By P kx x w) (s : DsW w0 gd gb hp V' t' D By P' w') (hpp : HpP hp V V' w w') : DsX w0 gd gb hp bx V' t' D By P' kx x w' := by
  refine ⟨s, hpp.kp.blk h.it ?_, h.ne, fun e => ?_⟩
  · rintro (e | e)
    · exact h.ne.2.2.1 e
    · exact h.nv e
  · rcases hpp.ge _ e with e | e
    · exact h.nv e
    · have := lt_of_block h.it; omega
/-- The item is stored anew. -/
theorem DsX.item (h : DsX w0 gd gb hp bx V t D By P kx x w) (k' x' : Int) : DsX w0 gd gb hp bx V t D By P k' x' ((w.setCell ⟨bx, 0, none⟩ (.int .i64 k')).setCell ⟨bx, 1, none⟩ (.int .i64 x')) := by
  have hs := ((Kp.refl (fun j => j = bx) w).setCell (p := ⟨bx, 0, none⟩) (fun _ => rfl) (.int .i64 k')).setCell (p := ⟨bx, 1, none⟩) (fun _ => rfl) (.int .i64 x')
  obtain ⟨M, a, m⟩ := h.s.h
  refine ⟨⟨h.s.d.kp hs (fun e => h.ne.1 e.symm), h.s.b.kp hs (fun e => h.ne.2.1 e.symm), ⟨M, a, m.kp hs (fun e => h.ne.2.2.1 e.symm) (fun g hg e => h.nv (by rw [hg, e]))⟩, h.s.ne, h.s.nv, h.s.ge, h.s.kp.trans' hs (fun j hj e => by have := h.ne.2.2.2; omega)⟩, box_set2 h.it _ _, h.ne, h.nv⟩
/-- A new item. -/
theorem DsW.box (h : DsW w0 gd gb hp V t D By P w) (k' x' : Int) : DsX w0 gd gb hp w.heap.size V t D By P k' x' (w.alloc (.cells #[.int .i64 k', .int .i64 x'] 126)) := by
  have := h.d.lt; have := h.b.lt; have := h.kp.size
  obtain ⟨M, a, m⟩ := h.h
  have := m.lt
  refine ⟨h.no ((Kp.refl _ _).alloc _), blk_new _ _, ⟨by omega, by omega, by omega, by omega⟩, fun e => ?_⟩
  have := m.vlt _ e; omega
theorem DsX.c0 (h : DsX w0 gd gb hp bx V t D By P kx x w) : w.cell? ⟨bx, 0, none⟩ = some (.int .i64 kx) := blk_cell h.it 0
theorem DsX.c1 (h : DsX w0 gd gb hp bx V t D By P kx x w) : w.cell? ⟨bx, 1, none⟩ = some (.int .i64 x) := blk_cell h.it 1
end
end Go.Proofs.YtgdokpfepfmbmaaDoor

namespace Go.Proofs.YtgdokpfepfmbmaaDoor
set_option linter.unusedVariables false
set_option linter.unusedSimpArgs false
open Go.RowKit

def RetD (f : Flr) (fr : Nat) (B : List Int) (w : World) (e : Ending) (w' : World) : Prop :=
  ∃ gd gb D By P t, e = .returned (.tuple #[.slice (some ⟨gd, 0, none⟩) f.s.size f.s.size, .slice (some ⟨gb, 0, none⟩) f.s.size f.s.size]) ∧ Blk (Value.int .i64) 3 w' gd D ∧ Blk (Value.int .i64) 3 w' gb By ∧ gd ≠ gb ∧ w.heap.size ≤ gd ∧ w.heap.size ≤ gb ∧ Kp No w w' ∧ List.length P ≤ t ∧ BfI (stepsP f fr B) fr f.s.size t D By P
theorem litM1 (w : World) : Rd IK (w.alloc (.cells #[.int .i64 (-1)] 3)) (.slice (some ⟨w.heap.size, 0, none⟩) 1 1) [-1] := Rd.litAt IK 3 w _ [-1] rfl (by unfold maxLen; simp) _ _ rfl rfl
theorem steps_sz {f : Flr} {fr : Nat} {B : List Int} (r : RightP f) {x y : Nat} (hx : x < f.s.size) (h : y ∈ stepsP f fr B x) : y < f.s.size := by
  unfold stepsP at h
  split at h
  · simp at h
  · exact near_sz r hx (List.mem_filter.1 h).1
theorem steps_len (f : Flr) (fr : Nat) (B : List Int) (x : Nat) : (stepsP f fr B x).length ≤ 4 := by
  unfold stepsP
  split
  · simp
  · exact Nat.le_trans (List.length_filter_le _ _) (near_len4 f x)

set_option maxHeartbeats 2000000 in
set_option maxRecDepth 100000 in
theorem ptdist_any {f : Flr} {fr p g1 g2 g3 : Nat} {B : List Int} {Vs : List SlC} {w : World} (r : RightP f) (h : PlW f fr (blkB f.s.size B) p g1 g2 g3 Vs w) (hfr : fr < f.s.size) :
    Calls Tryd.prog 55 #[.pointer (some ⟨p, 0, none⟩)] w (RetD f fr B w) := by
  unfold RetD
  have hs256 : f.s.size ≤ 256 := r.s256
  obtain ⟨n, hn⟩ : ∃ n, n = f.s.size := ⟨_, rfl⟩
  rw [← hn]
  have H := Lib.hid h; have HN := Lib.hid hn; have HR := Lib.hid r
  have lc0 : ∀ wx, Kp No w wx → wx.cell? ⟨p, 0, none⟩ = some (.slice (some ⟨g1, 0, none⟩) n n) := fun wx hk => by have := (h.no hk).c0; rwa [← hn] at this
  have lc3 : ∀ wx, Kp No w wx → wx.cell? ⟨p, 3, none⟩ = some (.int .i64 (fr : Int)) := fun wx hk => (h.no hk).c3
  have LC0 := Lib.hid lc0; have LC3 := Lib.hid lc3
  have c0a : ∀ o, (w.alloc o).cell? ⟨p, 0, none⟩ = some (.slice (some ⟨g1, 0, none⟩) n n) := fun o => lc0 _ ((Kp.refl _ _).alloc o)
  rw [← hn] at hs256 hfr
  have hfrI : (fr : Int) < (n : Int) := by omega
  have ST := Lib.hid (fun u hu => HR.out |> fun r => ptsteps_any (w := w) r h u hu)
  have HST := Lib.hid (BfI.start (st := stepsP f fr B) hfr)
  clear ST
  have hn1 : 1 ≤ n := by omega
  clear h hn r lc0 lc3 hfr
  go_enter Tryd.func55, Tryd.ntmps55
  go_wp2_with fail
  refine (repI_any (-1) n hn1 (by omega) (litM1 w)).mono ?_
  rintro e w1 ⟨gd, rfl, bd, gegd, kp1⟩
  have K1 := Lib.hid (show Kp No w w1 from ((Kp.refl No w).alloc _).no kp1)
  have BD := Lib.hid bd
  have GD := Lib.hid (show w.heap.size ≤ gd by simp at gegd; omega)
  have c0b : ∀ o, (w1.alloc o).cell? ⟨p, 0, none⟩ = some (.slice (some ⟨g1, 0, none⟩) n n) := fun o => LC0.out _ (K1.out.alloc o)
  clear bd gegd kp1 c0a
  go_wp2_with fail
  refine (repI_any (-1) n hn1 (by omega) (litM1 w1)).mono ?_
  rintro e w2 ⟨gb, rfl, bb, gegb, kp2⟩
  have K2 := Lib.hid (show Kp No w w2 from (K1.out.alloc _).no kp2)
  have BD2 := Lib.hid (show Blk (Value.int .i64) 3 w2 gd (List.replicate n (-1)) from (BD.out.alloc _).kpNo kp2)
  have BB2 := Lib.hid bb
  have GB := Lib.hid (show gd ≠ gb ∧ w.heap.size ≤ gb by have := BD.out.lt; have := K1.out.size; simp at gegb; omega)
  clear bb gegb kp2 c0b
  go_wp2_with fail
  refine (hpnew_any w2).mono ?_
  rintro e w3 ⟨rfl, hm3, kp3, _⟩
  obtain ⟨hp, hhp⟩ : ∃ hp, hp = w2.heap.size := ⟨_, rfl⟩
  have S3 := Lib.hid (show DsW w gd gb hp (.slice none 0 0) 0 (List.replicate n (-1)) (List.replicate n (-1)) [] w3 from
    ⟨BD2.out.kpNo kp3, BB2.out.kpNo kp3, ⟨[], by simp [entP], by rw [hhp]; exact hm3⟩, ⟨GB.out.1, by have := BD2.out.lt; omega, by have := BB2.out.lt; omega⟩, by simp [Value.ownBlock], ⟨GD.out, GB.out.2, by have := K2.out.size; omega⟩, K2.out.no kp3⟩)
  rw [← hhp]
  clear hm3 kp3 hhp
  have S4 := Lib.hid (S3.out.set fr 0)
  have hc3 := LC3.out w3 S3.out.kp
  have hd0 := S3.out.d.get (i := fr) (x := -1) (by rw [List.getElem?_replicate, if_pos (by omega)])
  have hdf := S3.out.d.free fr
  have hc3' := LC3.out _ S4.out.kp
  go_wp2_with fail
  refine (push_at (st := stepsP f fr B) (s := fr) (n := n) S4.out (by simp) (by simp) 0 fr 0 rfl).mono ?_
  rintro e w5 ⟨rfl, V5, s5, _⟩
  rw [List.nil_append] at s5
  have S5 := Lib.hid s5
  clear s5 hc3 hd0 hdf hc3'
  go_wp2_with fail
  refine (pop_some (st := stepsP f fr B) (s := fr) (n := n) S5.out HST.out (by omega) (kx := 0) (x := fr) rfl).mono ?_
  rintro e w6 ⟨V6, rfl, s6, _⟩
  have X7 := Lib.hid (s6.box 0 fr)
  clear s6
  go_wp2_with fail
  go_loopg [9, 10] (n + 1) (fun g_ xv iv wx => ∃ (t : Nat) (D By : List Int) (P : List (Nat × Nat)) (V : Value) (bx : Nat), g_ = n + 1 - t ∧ xv = .pointer (some ⟨bx, 0, none⟩) ∧ BfI (stepsP f fr B) fr n t D By P ∧ ((∃ kx x : Nat, iv = .bool true ∧ P[t]? = some (kx, x) ∧ DsX w gd gb hp bx V (t + 1) D By P kx x wx) ∨ (iv = .bool false ∧ P.length ≤ t ∧ DsW w gd gb hp V t D By P wx)))
  case atStart => exact ⟨0, _, _, _, V6, _, rfl, rfl, HST.out, .inl ⟨0, fr, rfl, rfl, X7.out⟩⟩
  case round =>
    obtain ⟨t, D, By, P, V, bx, hgk, rfl, bi, ⟨kx, x, rfl, hx, ds⟩ | ⟨rfl, hlt, ds⟩⟩ := hrel
    · have hxl : t < P.length := (List.getElem?_eq_some_iff.1 hx).1
      have hPn := bi.len
      obtain ⟨hxn, _, _⟩ := bi.q _ _ _ hx
      have DS := Lib.hid ds; have BK := Lib.hid (bi.into hx)
      have hb1 : wr.cell? ⟨bx, 1, none⟩ = some (.int .i64 (x : Int)) := ds.c1
      have STP := Lib.hid (ptsteps_any HR.out (H.out.no ds.s.kp) x (by rw [← HN.out]; exact hxn))
      obtain ⟨L, hL⟩ : ∃ L, L = stepsP f fr B x := ⟨_, rfl⟩
      have hL4 : L.length ≤ 4 := by rw [hL]; exact steps_len f fr B x
      rw [← hL] at STP
      have HL := Lib.hid hL
      have HYtgdokpfepfmbmaaDoor := Lib.hid hxn
      clear ds bi hx hL hxn
      go_wp2_with fail
      refine STP.out.mono ?_
      rintro e w7 ⟨vL, rfl, ns⟩
      obtain ⟨AL, qL, rfl⟩ := ns.own.rd.shape
      rw [ints_len] at ns ⊢
      obtain ⟨nL, hnL⟩ : ∃ nL, nL = L.length := ⟨_, rfl⟩
      rw [← hnL] at ns hL4 ⊢
      have HNL := Lib.hid hnL
      have D7 := Lib.hid (DS.out.no ns.kp)
      have OL := Lib.hid ns.own
      have GL := Lib.hid (show ∀ g, (Value.slice AL nL qL).ownBlock = some g → g ≠ gd ∧ g ≠ gb ∧ g ≠ hp ∧ g ≠ bx ∧ V.ownBlock ≠ some g by
        intro g hg
        have h1 := ns.ge g hg
        have h2 := DS.out.s.d.lt; have h3 := DS.out.s.b.lt
        obtain ⟨M, _, hm⟩ := DS.out.s.h
        have h4 := hm.lt; have h5 := lt_of_block DS.out.it
        refine ⟨by omega, by omega, by omega, by omega, fun e => ?_⟩
        have := hm.vlt g e; omega)
      clear ns hnL hb1 STP
      go_wp2_with fail
      obtain ⟨wo, hwo⟩ : ∃ wo : World, wo = wr := ⟨_, rfl⟩
      clear hwo
      go_loopg [61] (nL + 1) (fun g2_ jv wx => ∃ (m : Nat) (D By : List Int) (P : List (Nat × Nat)) (V : Value), g2_ = nL + 1 - m ∧ jv = .int .i64 m ∧ m ≤ nL ∧ BfK (stepsP f fr B) fr n t m kx x D By P ∧ DsX w gd gb hp bx V (t + 1) D By P kx x wx ∧ Own IK 3 wx (.slice AL nL qL) (ints L) ∧ (∀ g, (Value.slice AL nL qL).ownBlock = some g → g ≠ gd ∧ g ≠ gb ∧ g ≠ hp ∧ g ≠ bx ∧ V.ownBlock ≠ some g))
      case atStart => exact ⟨0, D, By, P, V, rfl, rfl, by omega, BK.out, D7.out, OL.out, GL.out⟩
      case round =>
        clear BK D7 OL GL DS hxl hPn
        obtain ⟨m, D, By, P, V, hg2, rfl, hm, bk, ds, ol, gl⟩ := hrel
        have BK := Lib.hid bk; have DS := Lib.hid ds; have OL := Lib.hid ol; have GL := Lib.hid gl
        clear bk ds ol gl
        by_cases hlt : m < nL
        · have hltI : (m : Int) < (nL : Int) := by omega
          have hwm : IntKind.i64.wrap ((m : Int) + 1) = (m : Int) + 1 := IntWalk.i64_in _ (by omega)
          obtain ⟨c, hc⟩ : ∃ c, L[m]? = some c := ⟨_, List.getElem?_eq_getElem (by rw [← HNL.out]; exact hlt)⟩
          have hc' : (stepsP f fr B x)[m]? = some c := by rw [← HL.out]; exact hc
          have hcn : c < n := by rw [HN.out]; exact steps_sz HR.out (by rw [← HN.out]; exact HYtgdokpfepfmbmaaDoor.out) (List.mem_of_getElem? hc')
          have hcI : (c : Int) < (n : Int) := by omega
          rcases OL.out.b with ⟨hv, _⟩ | ⟨gL, capL, hv, _, _, _⟩
          · simp only [Value.slice.injEq] at hv; omega
          simp only [Value.slice.injEq] at hv
          obtain ⟨rfl, hzz, rfl⟩ := hv
          clear hzz
          have hcc : wr.cell? ⟨gL, m, none⟩ = some (.int .i64 (c : Int)) := by have := OL.out.rd.intAt (ints_get hc); simpa using this
          obtain ⟨d, hd⟩ : ∃ d, D[c]? = some d := ⟨_, List.getElem?_eq_getElem (by rw [BK.out.b.lenD]; exact hcn)⟩
          have hcd : wr.cell? ⟨gd, c, none⟩ = some (.int .i64 d) := DS.out.s.d.get hd
          by_cases hd0 : d < 0
          · obtain ⟨b0, hb0⟩ : ∃ d, By[c]? = some d := ⟨_, List.getElem?_eq_getElem (by rw [BK.out.b.lenB]; exact hcn)⟩
            have BK2 := Lib.hid (BK.out.put hc' hcn hd hd0)
            have S2 := Lib.hid (DS.out.set2 c ((kx : Int) + 1) (x : Int))
            have hPn := BK.out.b.len
            have htl := (List.getElem?_eq_some_iff.1 BK.out.at_).1
            have hkn : kx ≤ 256 := by have := BK.out.b.key _ _ _ BK.out.at_; omega
            have hwk : IntKind.i64.wrap ((kx : Int) + 1) = (kx : Int) + 1 := IntWalk.i64_in _ (by omega)
            have hx0 := DS.out.c0
            have hx1 := DS.out.c1
            have hdf := DS.out.s.d.free c
            have hbf := DS.out.s.b.free c
            have hcb := DS.out.s.b.get hb0
            have S1 := DS.out.s.set c ((kx : Int) + 1)
            have e1 : (wr.setCell ⟨gd, c, none⟩ (.int .i64 ((kx : Int) + 1))).cell? ⟨gb, c, none⟩ = some (.int .i64 b0) := S1.b.get hb0
            have e2 : (wr.setCell ⟨gd, c, none⟩ (.int .i64 ((kx : Int) + 1))).frozen? ⟨gb, c, none⟩ = false := S1.b.free c
            have hs := (Kp.refl (fun j => j = gd) wr).setCell (p := ⟨gd, c, none⟩) (fun _ => rfl) (.int .i64 ((kx : Int) + 1))
            have e3 : (wr.setCell ⟨gd, c, none⟩ (.int .i64 ((kx : Int) + 1))).cell? ⟨bx, 1, none⟩ = some (.int .i64 (x : Int)) := blk_cell (hs.blk DS.out.it DS.out.ne.1) 1
            have HC := Lib.hid hc
            clear hc hc' hcn hd hlt S1 hs
            go_wp2_with fail
            go_region
            clear hx0 hx1 hdf hbf hcb e1 e2 e3 hcd hcc
            have X2 := Lib.hid (S2.out.no ((Kp.refl No _).drew))
            have hcd2 := X2.out.s.d.get (i := c) (x := (kx : Int) + 1) (by rw [List.getElem?_set, if_pos rfl, if_pos (by rw [BK.out.b.lenD, HN.out]; exact steps_sz HR.out (by rw [← HN.out]; exact HYtgdokpfepfmbmaaDoor.out) (List.mem_of_getElem? (by rw [← HL.out]; exact HC.out)))])
            have PU := Lib.hid (push_at (st := stepsP f fr B) (s := fr) (n := n) X2.out.s (by omega) (by omega) (kx + 1) c ((kx : Int) + 1) (by omega))
            have O2 := Lib.hid (show Own IK 3 ((wr.setCell ⟨gd, c, none⟩ (.int .i64 ((kx : Int) + 1))).setCell ⟨gb, c, none⟩ (.int .i64 (x : Int))).drew (.slice (some ⟨gL, 0, none⟩) nL qL) (ints L) from
              OL.out.kp ((((Kp.refl (fun j => j = gd ∨ j = gb) wr).setCell (p := ⟨gd, c, none⟩) (fun _ => .inl rfl) (.int .i64 ((kx : Int) + 1))).setCell (p := ⟨gb, c, none⟩) (fun _ => .inr rfl) (.int .i64 (x : Int))).drew) (fun g hg e => by
                have := GL.out g hg
                rcases e with e | e
                · exact this.1 e
                · exact this.2.1 e))
            obtain ⟨wq, hwq⟩ : ∃ wq, wq = ((wr.setCell ⟨gd, c, none⟩ (.int .i64 ((kx : Int) + 1))).setCell ⟨gb, c, none⟩ (.int .i64 (x : Int))).drew := ⟨_, rfl⟩
            have hsz := GL.out
            rw [← hwq] at X2 hcd2 PU O2 ⊢
            have GS := Lib.hid (show ∀ g, (Value.slice (some ⟨gL, 0, none⟩) nL qL).ownBlock = some g → g < wq.heap.size from fun g hg => O2.out.lt hg)
            clear hwq S2 hsz
            go_wp2_with fail
            refine PU.out.mono ?_
            rintro e w9 ⟨rfl, V9, s9, hpp⟩
            have X9 := Lib.hid (X2.out.by s9 hpp)
            have O9 := Lib.hid (O2.out.kp hpp.kp (fun g hg e => by
              have := GL.out g hg
              rcases e with e | e
              · exact this.2.2.1 e
              · exact this.2.2.2.2 e))
            have G9 := Lib.hid (show ∀ g, (Value.slice (some ⟨gL, 0, none⟩) nL qL).ownBlock = some g → g ≠ gd ∧ g ≠ gb ∧ g ≠ hp ∧ g ≠ bx ∧ V9.ownBlock ≠ some g from fun g hg => by
              have h1 := GL.out g hg
              refine ⟨h1.1, h1.2.1, h1.2.2.1, h1.2.2.2.1, fun e => ?_⟩
              rcases hpp.ge g e with e | e
              · exact h1.2.2.2.2 e
              · have := GS.out g hg; omega)
            clear s9 hpp hcd2 PU
            go_wp2_with fail
            go_roundg (nL + 1 - (m + 1))
            case measure => omega
            case rel => exact ⟨m + 1, _, _, _, V9, rfl, by go_num, by omega, BK2.out, X9.out, O9.out, G9.out⟩
          · have h0 : 0 ≤ d := by omega
            have BK2 := Lib.hid (BK.out.skip hc' hd h0)
            clear hc hc' hcn hd hlt h0
            go_wp2_with fail
            go_roundg (nL + 1 - (m + 1))
            case measure => omega
            case rel => exact ⟨m + 1, D, By, P, V, rfl, by go_num, by omega, BK2.out, DS.out, OL.out, GL.out⟩
        · obtain rfl : m = nL := by omega
          have hd0 : ¬ (m : Int) < (m : Int) := by omega
          have BI := Lib.hid ((show BfK (stepsP f fr B) fr n t (stepsP f fr B x).length kx x D By P by rw [← HL.out, ← HNL.out]; exact BK.out).done)
          have hb0 : wr.cell? ⟨bx, 0, none⟩ = some (.int .i64 (kx : Int)) := DS.out.c0
          have hb1 : wr.cell? ⟨bx, 1, none⟩ = some (.int .i64 (x : Int)) := DS.out.c1
          have X2 := Lib.hid (DS.out.s.box kx x)
          have hPn := BI.out.len
          have htl := (List.getElem?_eq_some_iff.1 BK.out.at_).1
          clear hlt
          by_cases hq : t + 1 < P.length
          · obtain ⟨⟨k2, x2⟩, h2⟩ : ∃ y, P[t + 1]? = some y := ⟨_, List.getElem?_eq_getElem hq⟩
            have PO := Lib.hid (pop_some X2.out.s BI.out (by omega) h2)
            have H2 := Lib.hid h2
            clear hq h2
            go_wp2_with fail
            refine PO.out.mono ?_
            rintro e w8 ⟨V8, rfl, s8, hpp⟩
            have X8 := Lib.hid (X2.out.by s8 hpp)
            have X9 := Lib.hid (X8.out.item k2 x2)
            have hx0 := X8.out.c0
            have hx1 := X8.out.c1
            obtain ⟨v1, hx1'⟩ := cellSet (p := ⟨wr.heap.size, 0, none⟩) (x := .int .i64 (k2 : Int)) hx1
            have hf0 : w8.frozen? ⟨wr.heap.size, 0, none⟩ = false := blk_free X8.out.it 0
            have hf1 : w8.frozen? ⟨wr.heap.size, 1, none⟩ = false := blk_free X8.out.it 1
            clear s8 hpp PO hb0 hb1
            go_wp2_with fail
            go_roundg (n + 1 - (t + 1))
            case measure => omega
            case rel => exact ⟨t + 1, D, By, P, V8, _, rfl, rfl, BI.out, .inl ⟨k2, x2, rfl, H2.out, X9.out⟩⟩
          · have PO := Lib.hid (pop_none X2.out.s BI.out (by omega) (by omega))
            have HQ := Lib.hid hq
            clear hq
            go_wp2_with fail
            refine PO.out.mono ?_
            rintro e w8 ⟨rfl, k8⟩
            have X8 := Lib.hid (X2.out.no k8)
            have X9 := Lib.hid (X8.out.item 0 0)
            have hx0 := X8.out.c0
            have hx1 := X8.out.c1
            obtain ⟨v1, hx1'⟩ := cellSet (p := ⟨wr.heap.size, 0, none⟩) (x := .int .i64 0) hx1
            have hf0 : w8.frozen? ⟨wr.heap.size, 0, none⟩ = false := blk_free X8.out.it 0
            have hf1 : w8.frozen? ⟨wr.heap.size, 1, none⟩ = false := blk_free X8.out.it 1
            clear k8 PO hb0 hb1
            go_wp2_with fail
            go_roundg (n + 1 - (t + 1))
            case measure => omega
            case rel => exact ⟨t + 1, D, By, P, V, _, rfl, rfl, BI.out, .inr ⟨rfl, by have := HQ.out; omega, X9.out.s⟩⟩
    · have DS := Lib.hid ds; have BI := Lib.hid bi; have LT := Lib.hid hlt
      clear ds bi hlt
      go_wp2_with fail
      go_ret2
      exact ⟨gd, gb, D, By, P, t, rfl, DS.out.d, DS.out.b, GB.out.1, GD.out, GB.out.2, DS.out.kp, LT.out, BI.out⟩
end Go.Proofs.YtgdokpfepfmbmaaDoor

namespace Go.Proofs.YtgdokpfepfmbmaaDoor
set_option linter.unusedVariables false
set_option linter.unusedSimpArgs false
open Go.RowKit

theorem least_ex {p : Nat → Prop} : ∀ k, p k → ∃ m, p m ∧ ∀ j, p j → m ≤ j := by
  intro k
  induction k using Nat.strongRecOn with
  | _ k ih =>
    intro hk
    by_cases h : ∃ j, j < k ∧ p j
    · obtain ⟨j, hj, hp⟩ := h; exact ih j hj hp
    · exact ⟨k, hk, fun j hj => by
        rcases Nat.lt_or_ge j k with h1 | h1
        · exact absurd ⟨j, h1, hj⟩ h
        · exact h1⟩
theorem isD_ex (st : Nat → List Nat) (s c : Nat) : ∃ d, IsD st s c d := by
  by_cases h : ∃ k, Wk st s k c
  · obtain ⟨k, hk⟩ := h
    obtain ⟨m, hm, hl⟩ := least_ex (p := fun k => Wk st s k c) k hk
    exact ⟨m, .inr ⟨m, rfl, hm, hl⟩⟩
  · exact ⟨-1, .inl ⟨rfl, fun k hk => h ⟨k, hk⟩⟩⟩
/-- How far c is; -1: it can't be reached. -/
noncomputable def dst (st : Nat → List Nat) (s c : Nat) : Int := Classical.choose (isD_ex st s c)
theorem dst_isD (st : Nat → List Nat) (s c : Nat) : IsD st s c (dst st s c) := Classical.choose_spec (isD_ex st s c)
noncomputable def distL (st : Nat → List Nat) (s n : Nat) : List Int := (List.range n).map fun c => dst st s c
theorem distL_len (st : Nat → List Nat) (s n : Nat) : (distL st s n).length = n := by simp [distL]
theorem distL_get {st : Nat → List Nat} {s n c : Nat} (h : c < n) : (distL st s n)[c]? = some (dst st s c) := by simp [distL, List.getElem?_range h]
theorem distL_of {st : Nat → List Nat} {s n : Nat} {D : List Int} (hl : D.length = n) (h : ∀ c d, D[c]? = some d → IsD st s c d) : D = distL st s n := by
  apply List.ext_getElem?
  intro i
  rcases Nat.lt_or_ge i n with h1 | h1
  · rw [distL_get h1]
    obtain ⟨d, hd⟩ : ∃ d, D[i]? = some d := ⟨_, List.getElem?_eq_getElem (by omega)⟩
    rw [hd, (h i d hd).uniq (dst_isD st s i)]
  · rw [List.getElem?_eq_none (by omega), List.getElem?_eq_none (by rw [distL_len]; exact h1)]
theorem BfI.dl {st : Nat → List Nat} {s n t : Nat} {D By : List Int} {P : List (Nat × Nat)} (h : BfI st s n t D By P) (ht : P.length ≤ t) : D = distL st s n := distL_of h.lenD fun c d hd => h.isD ht hd
/-- path.Dist's answer. -/
noncomputable def distP (f : Flr) (fr : Int) (B : List Int) : List Int := if ptOk f fr = true then distL (stepsP f fr.toNat B) fr.toNat f.s.size else []
theorem Blk.newI {w0 w : World} {g : Nat} {l : List Int} (h : Blk (Value.int .i64) 3 w g l) (hg : w0.heap.size ≤ g) (hk : Kp No w0 w) (hl : l.length ≤ 1000000) : NewS IK 3 w0 w (.slice (some ⟨g, 0, none⟩) l.length l.length) l :=
  ⟨(h.ownB IK1).own (by unfold maxLen; omega), fun g' e => by simp [Value.ownBlock] at e; omega, hk⟩
theorem ptOk_nat {f : Flr} {fr : Int} (h : ptOk f fr = true) : ∃ k : Nat, fr = k ∧ k < f.s.size ∧ RightP f := by
  unfold ptOk at h
  simp only [Bool.and_eq_true, decide_eq_true_eq] at h
  exact ⟨fr.toNat, by omega, by omega, rightB_iff.1 h.1.2⟩

set_option maxRecDepth 100000 in
theorem ptDist_any (f : Flr) (hsz : f.s.size ≤ 1000000) (fr : Int) {bv : Value} {B : List Int} {w : World} (hB : Rd IK w bv B) :
    Calls Tryd.prog 30 #[f.val, .int .i64 fr, bv] w fun e w' => ∃ v, e = .returned v ∧ NewS IK 3 w w' v (distP f fr B) := by
  have HBX := Lib.hid (BxW.new f w)
  cases hok : ptOk f fr with
  | false =>
    have HO := Lib.hid (ptof_no f hsz fr bv hok)
    have HD := Lib.hid (show distP f fr B = [] by unfold distP; rw [hok]; simp)
    obtain ⟨Y, hY⟩ : ∃ Y, Y = distP f fr B := ⟨_, rfl⟩
    rw [← hY] at HD ⊢
    obtain ⟨X, Y, s⟩ := f
    unfold Flr.val at HO ⊢
    clear hok hsz hB hY
    go_enter Tryd.func30, Tryd.ntmps30
    go_wp2_with (go_at_call 54; refine (HO.out _).mono ?_; rintro e w1 ⟨rfl, kp1⟩; have K1 := Lib.hid kp1; clear kp1)
    go_ret
    exact ⟨_, rfl, by rw [HD.out]; exact ⟨Own.nil _ _ _, by simp [Value.ownBlock], HBX.out.kp.no K1.out⟩⟩
  | true =>
    obtain ⟨k, rfl, hk, hr⟩ := ptOk_nat hok
    have HO := Lib.hid (ptof_ok f hsz k (w := w.alloc (.cells #[.int .i64 f.W, .int .i64 f.H, .string f.s] 23)) (hB.alloc _) hok)
    have HD := Lib.hid (show distP f (k : Int) B = distL (stepsP f k B) k f.s.size by unfold distP; rw [hok]; simp)
    obtain ⟨N, hN⟩ : ∃ N, N = distP f k B := ⟨_, rfl⟩
    rw [← hN] at HD ⊢
    have HK := Lib.hid hk; have HR := Lib.hid hr
    obtain ⟨F, hF⟩ : ∃ F, F = f := ⟨_, rfl⟩
    have HF := Lib.hid hF
    rw [← hF] at HD HK HR
    obtain ⟨X, Y, s⟩ := f
    unfold Flr.val at HO ⊢
    clear hok hsz hB hN hk hr hF
    go_enter Tryd.func30, Tryd.ntmps30
    go_wp2_with fail
    refine HO.out.mono ?_
    rintro e w1 ⟨p, g1, g2, g3, Vs, rfl, pl, kp1⟩
    have DI := Lib.hid (ptdist_any (f := F) HR.out (by rw [HF.out]; exact pl) HK.out)
    have K1 := Lib.hid (HBX.out.kp.no kp1)
    clear pl kp1
    go_wp2_with fail
    refine DI.out.mono ?_
    rintro e w2 ⟨gd, gb, D, By, P, t, rfl, bd, _, _, hgd, _, kp2, ht, bi⟩
    have hl := bi.lenD
    have hs256 : F.s.size ≤ 256 := HR.out.s256
    have NW := Lib.hid (show NewS IK 3 w w2 (.slice (some ⟨gd, 0, none⟩) F.s.size F.s.size) N by
      rw [HD.out, ← bi.dl ht]
      have := (bd.newI (w0 := w) (by have := K1.out.size; omega) (K1.out.no kp2) (by omega))
      rwa [hl] at this)
    clear bd hgd kp2 ht bi hl
    go_wp2_with fail
    go_ret
    exact ⟨_, rfl, NW.out⟩
end Go.Proofs.YtgdokpfepfmbmaaDoor

namespace Go.Proofs.YtgdokpfepfmbmaaDoor
set_option linter.unusedVariables false
set_option linter.unusedSimpArgs false
open Go.RowKit

set_option maxRecDepth 100000 in
theorem idxI_any {w : World} {v : Value} {l : List Int} (hv : Rd IK w v l) (x : Int) :
    Calls Tryd.prog 79 #[v, .int .i64 x] w fun e w' => ∃ i : Int, e = .returned (.int .i64 i) ∧ (0 ≤ i ↔ x ∈ l) ∧ Kp No w w' := by
  have hl := hv.lenI
  obtain ⟨A, c, rfl⟩ := hv.shape
  obtain ⟨n, hn⟩ : ∃ n, n = l.length := ⟨_, rfl⟩
  rw [← hn] at hv hl ⊢
  have H := Lib.hid hv; have HN := Lib.hid hn
  unfold maxLen at hl
  clear hv hn
  go_enter Tryd.func79, Tryd.ntmps79
  go_wp2_with fail
  go_loopg [8] (n + 1) (fun g_ iv wx => ∃ i : Nat, g_ = n + 1 - i ∧ iv = .int .i64 i ∧ i ≤ n ∧ (∀ y ∈ l.take i, y ≠ x) ∧ Kp No w wx)
  case atStart => exact ⟨0, rfl, rfl, by omega, by simp, Kp.refl _ _⟩
  case round =>
    obtain ⟨i, hg, rfl, hi, hno, kp⟩ := hrel
    have NO := Lib.hid hno; have KP := Lib.hid kp
    clear hno kp
    by_cases hlt : i < n
    · have hltI : (i : Int) < (n : Int) := by omega
      have hwi : IntKind.i64.wrap ((i : Int) + 1) = (i : Int) + 1 := IntWalk.i64_in _ (by omega)
      obtain ⟨y, hy⟩ : ∃ y, l[i]? = some y := ⟨_, List.getElem?_eq_getElem (by rw [← HN.out]; exact hlt)⟩
      rcases H.out with ⟨_, he⟩ | ⟨g, o, cap', hv, _⟩
      · have := HN.out; rw [he, List.length_nil] at this; omega
      simp only [Value.slice.injEq] at hv
      obtain ⟨rfl, hzz, rfl⟩ := hv
      clear hzz
      have hc := (H.out.kpNo KP.out).intAt hy
      have HY := Lib.hid hy
      clear hy hlt
      by_cases hxy : x = y
      · subst hxy
        go_wp2_with fail
        go_ret
        exact ⟨i, rfl, ⟨fun _ => List.mem_of_getElem? HY.out, fun _ => by omega⟩, KP.out⟩
      · have hb : (x == y) = false := by simpa using hxy
        have NO2 := Lib.hid (show ∀ z ∈ l.take (i + 1), z ≠ x from fun z hz => by
          rw [List.take_add_one, HY.out] at hz
          rcases List.mem_append.1 hz with h | h
          · exact NO.out z h
          · simp at h; subst h; exact fun e => hxy e.symm)
        clear hxy
        go_wp2_with fail
        go_roundg (n + 1 - (i + 1))
        case measure => omega
        case rel => exact ⟨i + 1, rfl, by go_num, by omega, NO2.out, KP.out⟩
    · obtain rfl : i = n := by omega
      have hd0 : ¬ (i : Int) < (i : Int) := by omega
      have NO2 := Lib.hid (show x ∉ l from fun h => by
        have := NO.out x (by rw [HN.out, List.take_length]; exact h)
        exact this rfl)
      clear hlt
      go_wp2_with fail
      go_ret
      exact ⟨-1, rfl, ⟨fun h => by omega, fun h => absurd h NO2.out⟩, KP.out⟩
set_option maxRecDepth 100000 in
theorem conI_any {w : World} {v : Value} {l : List Int} (hv : Rd IK w v l) (x : Int) (b : Bool) (hb : b = decide (x ∈ l)) :
    Calls Tryd.prog 51 #[v, .int .i64 x] w fun e w' => e = .returned (.bool b) ∧ Kp No w w' := by
  have HI := Lib.hid (idxI_any hv x)
  have HB := Lib.hid hb
  clear hv hb
  go_enter Tryd.func51, Tryd.ntmps51
  go_wp2_with fail
  refine HI.out.mono ?_
  rintro e w1 ⟨i, rfl, hi, kp⟩
  have HE := Lib.hid (show decide (0 ≤ i) = b by rw [HB.out, decide_eq_decide]; exact hi)
  have K1 := Lib.hid kp
  clear hi kp
  go_wp2_with fail
  go_ret
  exact ⟨by have := HE.out; simp at this ⊢; exact this, K1.out⟩
end Go.Proofs.YtgdokpfepfmbmaaDoor

namespace Go.Proofs.YtgdokpfepfmbmaaDoor
set_option linter.unusedVariables false
set_option linter.unusedSimpArgs false
open Go.RowKit

set_option maxRecDepth 100000 in
theorem qdock_any (c : Nat) (b : Bool) (hb : b = (kindB c == 3)) (w : World) : Calls Tryd.prog 63 #[.int .u8 (c : Int)] w fun e w' => e = .returned (.bool b) ∧ w' = w := by
  have HB := Lib.hid hb
  clear hb
  by_cases h1 : 48 ≤ c
  · have h1I : (48 : Int) ≤ (c : Int) := by omega
    by_cases h2 : c ≤ 55
    · have h2I : (c : Int) ≤ 55 := by omega
      have e : b = true := by rw [HB.out]; unfold kindB; rw [if_neg (by omega), if_neg (by omega), if_pos (by omega)]; rfl
      subst e
      clear h1 h2
      go_enter Tryd.func63, Tryd.ntmps63
      go_wp2
      go_ret
      exact ⟨rfl, rfl⟩
    · have h2I : ¬ (c : Int) ≤ 55 := by omega
      have e : b = false := by rw [HB.out]; unfold kindB; rw [if_neg (by omega)]; split; rfl; rw [if_neg (by omega)]; rfl
      subst e
      clear h1 h2
      go_enter Tryd.func63, Tryd.ntmps63
      go_wp2
      go_ret
      exact ⟨rfl, rfl⟩
  · have h1I : ¬ (48 : Int) ≤ (c : Int) := by omega
    have e : b = false := by rw [HB.out]; unfold kindB; split; rfl; rw [if_neg (by omega), if_neg (by omega)]; rfl
    subst e
    clear h1
    go_enter Tryd.func63, Tryd.ntmps63
    go_wp2
    go_ret
    exact ⟨rfl, rfl⟩
set_option maxRecDepth 100000 in
theorem qlane_any (c : Nat) (b : Bool) (hb : b = (kindB c == 2)) (w : World) : Calls Tryd.prog 64 #[.int .u8 (c : Int)] w fun e w' => e = .returned (.bool b) ∧ w' = w := by
  have HB := Lib.hid hb
  clear hb
  by_cases h1 : 97 ≤ c
  · have h1I : (97 : Int) ≤ (c : Int) := by omega
    by_cases h2 : c ≤ 122
    · have h2I : (c : Int) ≤ 122 := by omega
      have e : b = true := by rw [HB.out]; unfold kindB; rw [if_neg (by omega), if_pos (by omega)]; rfl
      subst e
      clear h1 h2
      go_enter Tryd.func64, Tryd.ntmps64
      go_wp2
      go_ret
      exact ⟨rfl, rfl⟩
    · have h2I : ¬ (c : Int) ≤ 122 := by omega
      have e : b = false := by rw [HB.out]; unfold kindB; rw [if_neg (by omega), if_neg (by omega), if_neg (by omega)]; rfl
      subst e
      clear h1 h2
      go_enter Tryd.func64, Tryd.ntmps64
      go_wp2
      go_ret
      exact ⟨rfl, rfl⟩
  · have h1I : ¬ (97 : Int) ≤ (c : Int) := by omega
    have e : b = false := by rw [HB.out]; unfold kindB; split; rfl; rw [if_neg (by omega)]; split <;> rfl
    subst e
    clear h1
    go_enter Tryd.func64, Tryd.ntmps64
    go_wp2
    go_ret
    exact ⟨rfl, rfl⟩

set_option maxHeartbeats 1000000 in
set_option maxRecDepth 100000 in
theorem qbeside_any (W H c : Nat) (s : ByteArray) (hW1 : 1 ≤ W) (hW : W ≤ 16) (hH1 : 1 ≤ H) (hH : H ≤ 16) (hc : c < W * H) (w : World) :
    Calls Tryd.prog 66 #[(Flr.mk W H s).val, .int .i64 (c : Int)] w fun e w' => ∃ v, e = .returned v ∧ NewS IK 3 w w' v (ints (besideP W H c)) := by
  have HBX := Lib.hid (BxW.new (Flr.mk W H s) w)
  unfold Flr.val
  obtain ⟨x, hx⟩ : ∃ x, x = c % W := ⟨_, rfl⟩
  obtain ⟨y, hy⟩ : ∃ y, y = c / W := ⟨_, rfl⟩
  have hxW : x < W := by rw [hx]; exact Nat.mod_lt _ hW1
  have hyH : y < H := by rw [hy]; exact Nat.div_lt_of_lt_mul hc
  have hcy : W * y + x = c := by rw [hx, hy]; exact Nat.div_add_mod c W
  have hc256 : c < 256 := Nat.lt_of_lt_of_le hc (Nat.mul_le_mul hW hH)
  have hxI : (c : Int).tmod (W : Int) = (x : Int) := by rw [Int.tmod_eq_emod_of_nonneg (by omega), hx]; rfl
  have hyI : (c : Int).tdiv (W : Int) = (y : Int) := by rw [Int.tdiv_eq_ediv_of_nonneg (by omega), hy]; rfl
  have hxJ : (c : Int) % (W : Int) = (x : Int) := by rw [hx]; rfl
  have hyJ : (c : Int) / (W : Int) = (y : Int) := by rw [hy]; rfl
  have hyW : IntKind.i64.wrap (y : Int) = (y : Int) := IntWalk.i64_in _ (by omega)
  have hW0 : (W : Int) ≠ 0 := by omega
  have hW0b : ((W : Int) == 0) = false := by simp; omega
  have hxc : x ≤ c := by omega
  have hyc : 0 < y → W ≤ c := fun h => by
    have : W * 1 ≤ W * y := Nat.mul_le_mul_left W h
    omega
  have HX := Lib.hid hx; have HY := Lib.hid hy; have HYC := Lib.hid hyc
  clear hx hy hcy hc hyc
  go_enter Tryd.func66, Tryd.ntmps66
  obtain ⟨w3, hw3⟩ : ∃ w3, w3 = w.alloc (.cells #[.int .i64 (W : Int), .int .i64 (H : Int), .string s] 23) := ⟨_, rfl⟩
  have B3 := Lib.hid (show BxW (Flr.mk W H s) w.heap.size w w3 by rw [hw3]; exact HBX.out)
  have NS := Lib.hid (show NewS IK 3 w3 w3 (.slice none 0 0) (ints (bsA W H c 0)) from NewS.nil _ _ _)
  go_upto_region 3 with fail
  go_cut [5, 7, 12, 13, 14, 15] (fun v y' _ _ _ _ wx => ∃ A m q, v = .slice A m q ∧ m = (bsA W H c 0).length ∧ NewS IK 3 w3 wx v (ints (bsA W H c 0)) ∧ y' = .int .i64 (y : Int))
  case first =>
    go_wp2_with fail
    go_meet
    exact ⟨none, 0, 0, rfl, rfl, by rw [← hw3]; exact NS.out, rfl⟩
  case rest =>
    clear NS hw3 hxI hyI hxJ hyJ hyW hW0 hW0b
    obtain ⟨A, m, q, rfl, hm, ns, rfl⟩ := hcut
    have NS := Lib.hid ns; have HM := Lib.hid hm
    have hm4 : m ≤ 4 := by rw [hm]; exact Nat.le_trans (bsA_len W H c 0) (by omega)
    have hb0 := (B3.out.no ns.kp).c0; have hb1 := (B3.out.no ns.kp).c1
    simp only at hb0 hb1
    clear hm ns
    go_upto_if 17 with fail
    go_cut [5, 18, 19, 20, 21, 22, 23, 24] (fun v _ _ _ _ _ _ _ wx => ∃ A m q, v = .slice A m q ∧ m = (bsA W H c 1).length ∧ NewS IK 3 w3 wx v (ints (bsA W H c 1)))
    case first =>
      have HA := Lib.hid (bsA_succ W H c 0)
      by_cases hd : 0 < y
      · have HP := Lib.hid (show bsA W H c 1 = bsA W H c 0 ++ [c - W] by rw [HA.out]; congr 1; show (if _ then _ else _) = _; rw [if_pos (by first | (rw [← HX.out]; exact hd) | (rw [← HY.out]; exact hd))])
        have hWc := HYC.out hd
        have hv : (0 : Int) ≤ ((c : Int) - (W : Int)) ∧ ((c : Int) - (W : Int)) ≤ 512 := by omega
        have hvw : IntKind.i64.wrap ((c : Int) - (W : Int)) = ((c : Int) - (W : Int)) := IntWalk.i64_in _ (by omega)
        have hdI : (0 : Int) < (y : Int) := by omega
        go_wp2_with (at_builtin; refine wpl_snocZ (n := c - W) rfl (.tmp 18) (.tmp 23) rfl rfl rfl rfl (by omega) NS.out HM.out (by have := bsA_len W H c 0; have := HM.out; omega) ?_; intro A2 q2 w4 n4 _ _; have N4 := Lib.hid n4; clear n4)
        go_meet
        exact ⟨A2, _, q2, rfl, by rw [HP.out, List.length_append, ← HM.out]; rfl, by rw [HP.out]; exact N4.out⟩
      · have HP := Lib.hid (show bsA W H c 1 = bsA W H c 0 by rw [HA.out]; show _ ++ (if _ then _ else _) = _; rw [if_neg (by first | (rw [← HX.out]; exact hd) | (rw [← HY.out]; exact hd)), List.append_nil])
        have hdI : ¬ (0 : Int) < (y : Int) := by omega
        go_wp2_with fail
        go_meet
        exact ⟨_, _, _, rfl, by rw [HP.out]; exact HM.out, by rw [HP.out]; exact NS.out⟩
    case rest =>
      clear NS HM hb0 hb1
      obtain ⟨A, m, q, rfl, hm, ns⟩ := hcut
      have NS := Lib.hid ns; have HM := Lib.hid hm
      have hm4 : m ≤ 4 := by rw [hm]; exact Nat.le_trans (bsA_len W H c 1) (by omega)
      have hb0 := (B3.out.no ns.kp).c0; have hb1 := (B3.out.no ns.kp).c1
      simp only at hb0 hb1
      clear hm ns
      go_upto_if 29 with fail
      go_cut [5, 30, 31, 32, 33, 34] (fun v _ _ _ _ _ wx => ∃ A m q, v = .slice A m q ∧ m = (bsA W H c 2).length ∧ NewS IK 3 w3 wx v (ints (bsA W H c 2)))
      case first =>
        have HA := Lib.hid (bsA_succ W H c 1)
        by_cases hd : x + 1 < W
        · have HP := Lib.hid (show bsA W H c 2 = bsA W H c 1 ++ [c + 1] by rw [HA.out]; congr 1; show (if _ then _ else _) = _; rw [if_pos (by first | (rw [← HX.out]; exact hd) | (rw [← HY.out]; exact hd))])
          have hv : (0 : Int) ≤ ((c : Int) + 1) ∧ ((c : Int) + 1) ≤ 512 := by omega
          have hvw : IntKind.i64.wrap ((c : Int) + 1) = ((c : Int) + 1) := IntWalk.i64_in _ (by omega)
          have hdI : (x : Int) < (W : Int) - 1 := by omega
          go_wp2_with (at_builtin; refine wpl_snocZ (n := c + 1) rfl (.tmp 30) (.tmp 33) rfl rfl rfl rfl (by omega) NS.out HM.out (by have := bsA_len W H c 1; have := HM.out; omega) ?_; intro A2 q2 w4 n4 _ _; have N4 := Lib.hid n4; clear n4)
          go_meet
          exact ⟨A2, _, q2, rfl, by rw [HP.out, List.length_append, ← HM.out]; rfl, by rw [HP.out]; exact N4.out⟩
        · have HP := Lib.hid (show bsA W H c 2 = bsA W H c 1 by rw [HA.out]; show _ ++ (if _ then _ else _) = _; rw [if_neg (by first | (rw [← HX.out]; exact hd) | (rw [← HY.out]; exact hd)), List.append_nil])
          have hdI : ¬ (x : Int) < (W : Int) - 1 := by omega
          go_wp2_with fail
          go_meet
          exact ⟨_, _, _, rfl, by rw [HP.out]; exact HM.out, by rw [HP.out]; exact NS.out⟩
      case rest =>
        clear NS HM hb0 hb1
        obtain ⟨A, m, q, rfl, hm, ns⟩ := hcut
        have NS := Lib.hid ns; have HM := Lib.hid hm
        have hm4 : m ≤ 4 := by rw [hm]; exact Nat.le_trans (bsA_len W H c 2) (by omega)
        have hb0 := (B3.out.no ns.kp).c0; have hb1 := (B3.out.no ns.kp).c1
        simp only at hb0 hb1
        clear hm ns
        go_upto_if 39 with fail
        go_cut [5, 40, 41, 42, 43, 44, 45, 46] (fun v _ _ _ _ _ _ _ wx => ∃ A m q, v = .slice A m q ∧ m = (bsA W H c 3).length ∧ NewS IK 3 w3 wx v (ints (bsA W H c 3)))
        case first =>
          have HA := Lib.hid (bsA_succ W H c 2)
          by_cases hd : y + 1 < H
          · have HP := Lib.hid (show bsA W H c 3 = bsA W H c 2 ++ [c + W] by rw [HA.out]; congr 1; show (if _ then _ else _) = _; rw [if_pos (by first | (rw [← HX.out]; exact hd) | (rw [← HY.out]; exact hd))])
            have hv : (0 : Int) ≤ ((c : Int) + (W : Int)) ∧ ((c : Int) + (W : Int)) ≤ 512 := by omega
            have hvw : IntKind.i64.wrap ((c : Int) + (W : Int)) = ((c : Int) + (W : Int)) := IntWalk.i64_in _ (by omega)
            have hdI : (y : Int) < (H : Int) - 1 := by omega
            go_wp2_with (at_builtin; refine wpl_snocZ (n := c + W) rfl (.tmp 40) (.tmp 45) rfl rfl rfl rfl (by omega) NS.out HM.out (by have := bsA_len W H c 2; have := HM.out; omega) ?_; intro A2 q2 w4 n4 _ _; have N4 := Lib.hid n4; clear n4)
            go_meet
            exact ⟨A2, _, q2, rfl, by rw [HP.out, List.length_append, ← HM.out]; rfl, by rw [HP.out]; exact N4.out⟩
          · have HP := Lib.hid (show bsA W H c 3 = bsA W H c 2 by rw [HA.out]; show _ ++ (if _ then _ else _) = _; rw [if_neg (by first | (rw [← HX.out]; exact hd) | (rw [← HY.out]; exact hd)), List.append_nil])
            have hdI : ¬ (y : Int) < (H : Int) - 1 := by omega
            go_wp2_with fail
            go_meet
            exact ⟨_, _, _, rfl, by rw [HP.out]; exact HM.out, by rw [HP.out]; exact NS.out⟩
        case rest =>
          clear NS HM hb0 hb1
          obtain ⟨A, m, q, rfl, hm, ns⟩ := hcut
          have NS := Lib.hid ns; have HM := Lib.hid hm
          have hm4 : m ≤ 4 := by rw [hm]; exact Nat.le_trans (bsA_len W H c 3) (by omega)
          have hb0 := (B3.out.no ns.kp).c0; have hb1 := (B3.out.no ns.kp).c1
          simp only at hb0 hb1
          clear hm ns
          go_upto_if 48 with fail
          go_cut [5, 49, 50, 51, 52, 53] (fun v _ _ _ _ _ wx => ∃ A m q, v = .slice A m q ∧ m = (bsA W H c 4).length ∧ NewS IK 3 w3 wx v (ints (bsA W H c 4)))
          case first =>
            have HA := Lib.hid (bsA_succ W H c 3)
            by_cases hd : 0 < x
            · have HP := Lib.hid (show bsA W H c 4 = bsA W H c 3 ++ [c - 1] by rw [HA.out]; congr 1; show (if _ then _ else _) = _; rw [if_pos (by first | (rw [← HX.out]; exact hd) | (rw [← HY.out]; exact hd))])
              have hv : (0 : Int) ≤ ((c : Int) - 1) ∧ ((c : Int) - 1) ≤ 512 := by omega
              have hvw : IntKind.i64.wrap ((c : Int) - 1) = ((c : Int) - 1) := IntWalk.i64_in _ (by omega)
              have hdI : (0 : Int) < (x : Int) := by omega
              go_wp2_with (at_builtin; refine wpl_snocZ (n := c - 1) rfl (.tmp 49) (.tmp 52) rfl rfl rfl rfl (by omega) NS.out HM.out (by have := bsA_len W H c 3; have := HM.out; omega) ?_; intro A2 q2 w4 n4 _ _; have N4 := Lib.hid n4; clear n4)
              go_meet
              exact ⟨A2, _, q2, rfl, by rw [HP.out, List.length_append, ← HM.out]; rfl, by rw [HP.out]; exact N4.out⟩
            · have HP := Lib.hid (show bsA W H c 4 = bsA W H c 3 by rw [HA.out]; show _ ++ (if _ then _ else _) = _; rw [if_neg (by first | (rw [← HX.out]; exact hd) | (rw [← HY.out]; exact hd)), List.append_nil])
              have hdI : ¬ (0 : Int) < (x : Int) := by omega
              go_wp2_with fail
              go_meet
              exact ⟨_, _, _, rfl, by rw [HP.out]; exact HM.out, by rw [HP.out]; exact NS.out⟩
          case rest =>
            clear NS HM hb0 hb1
            obtain ⟨A, m, q, rfl, hm, ns⟩ := hcut
            have NS := Lib.hid ns; have HM := Lib.hid hm
            have hm4 : m ≤ 4 := by rw [hm]; exact Nat.le_trans (bsA_len W H c 4) (by omega)
            have hb0 := (B3.out.no ns.kp).c0; have hb1 := (B3.out.no ns.kp).c1
            simp only at hb0 hb1
            clear hm ns
            go_wp2_with fail
            go_ret
            exact ⟨_, rfl, by rw [← bsA_four]; exact NS.out.from_ B3.out.kp⟩
end Go.Proofs.YtgdokpfepfmbmaaDoor

namespace Go.Proofs.YtgdokpfepfmbmaaDoor
set_option linter.unusedVariables false
set_option linter.unusedSimpArgs false
open Go.RowKit

def offs (on : List Bool) : Nat := (on.filter fun x => !x).length
theorem offs_cons (y : Bool) (ys : List Bool) : offs (y :: ys) = (if y = true then 0 else 1) + offs ys := by
  unfold offs; cases y
  · simp; omega
  · simp
theorem offs_set : ∀ (on : List Bool) (i : Nat), on[i]? = some false → offs (on.set i true) + 1 = offs on := by
  intro on
  induction on with
  | nil => intro i h; simp at h
  | cons y ys ih =>
    intro i h
    rcases i with _ | i
    · simp at h; subst h; rw [List.set_cons_zero, offs_cons, offs_cons]; simp; omega
    · rw [List.getElem?_cons_succ] at h
      have := ih i h
      rw [List.set_cons_succ, offs_cons, offs_cons]; omega
structure RchI (W H : Nat) (s : ByteArray) (fr : Nat) (on : List Bool) : Prop where
  len : on.length = s.size
  at_ : on[fr]? = some true
  snd : ∀ i : Nat, on[i]? = some true → Conn W H s fr i
def RchC (W H : Nat) (s : ByteArray) (on : List Bool) (i : Nat) : Prop := ∀ a : Nat, a < i → on[a]? = some true → ∀ k ∈ besideP W H a, laneI s k → on[k]? = some true
def RchD (W H : Nat) (s : ByteArray) (on : List Bool) (i j : Nat) : Prop := ∀ k ∈ (besideP W H i).take j, laneI s k → on[k]? = some true
section
variable {W H fr i j b : Nat} {s : ByteArray} {on : List Bool}
theorem RchI.start (hf : fr < s.size) : RchI W H s fr ((List.replicate s.size false).set fr true) := by
  refine ⟨by simp, by rw [List.getElem?_set_self (by simpa using hf)], fun i hi => ?_⟩
  rw [List.getElem?_set] at hi
  split at hi
  · rename_i h; subst h; exact .refl
  · rw [List.getElem?_replicate] at hi; split at hi <;> simp at hi
theorem RchI.put (h : RchI W H s fr on) (hi : on[i]? = some true) (hb : (besideP W H i)[j]? = some b) (hl : laneI s b) (hn : on[b]? = some false) : RchI W H s fr (on.set b true) := by
  have hbl : b < on.length := (List.getElem?_eq_some_iff.1 hn).1
  refine ⟨by rw [List.length_set]; exact h.len, ?_, fun k hk => ?_⟩
  · rw [List.getElem?_set]
    split
    · rfl
    · exact h.at_
  · rw [List.getElem?_set] at hk
    split at hk
    · rename_i e; subst e; exact .step (h.snd i hi) (List.mem_of_getElem? hb) hl
    · exact h.snd k hk
theorem RchD.zero : RchD W H s on i 0 := fun k hk => by simp at hk
theorem RchD.step (h : RchD W H s on i j) (hb : (besideP W H i)[j]? = some b) (hl : laneI s b → on[b]? = some true) : RchD W H s on i (j + 1) := by
  intro k hk
  rw [List.take_add_one, hb] at hk
  rcases List.mem_append.1 hk with hk | hk
  · exact h k hk
  · simp at hk; subst hk; exact hl
theorem RchC.zero : RchC W H s on 0 := fun a ha => by omega
theorem RchC.off (h : RchC W H s on i) (hi : on[i]? = some false) : RchC W H s on (i + 1) := by
  intro a ha h2
  rcases Nat.lt_or_ge a i with h3 | h3
  · exact h a h3 h2
  · obtain rfl : a = i := by omega
    rw [hi] at h2; simp at h2
theorem RchC.onn (h : RchC W H s on i) (hd : RchD W H s on i (besideP W H i).length) : RchC W H s on (i + 1) := by
  intro a ha h2
  rcases Nat.lt_or_ge a i with h3 | h3
  · exact h a h3 h2
  · obtain rfl : a = i := by omega
    intro k hk; exact hd k (by rw [List.take_length]; exact hk)
theorem RchI.done (h : RchI W H s fr on) (hc : RchC W H s on s.size) (i : Nat) : laneI s i → (on[i]? = some true ↔ Conn W H s fr i) := fun _ =>
  ⟨h.snd i, fun hq => hq.closed (p := fun i => on[i]? = some true) h.at_ fun a k ha hk hl => hc a (by rw [← h.len]; exact (List.getElem?_eq_some_iff.1 ha).1) ha k hk hl⟩
end
end Go.Proofs.YtgdokpfepfmbmaaDoor

namespace Go.Proofs.YtgdokpfepfmbmaaDoor
set_option linter.unusedVariables false
set_option linter.unusedSimpArgs false
open Go.RowKit

structure RcW (f : Flr) (bf g : Nat) (w : World) (on : List Bool) (wx : World) : Prop where
  bx : BxW f bf w wx
  bl : Blk Value.bool 4 wx g on
  lt : bf < g ∧ w.heap.size ≤ g
section
variable {f : Flr} {bf g : Nat} {w wx w' : World} {on : List Bool}
theorem RcW.no (h : RcW f bf g w on wx) (hk : Kp No wx w') : RcW f bf g w on w' := ⟨h.bx.no hk, h.bl.kpNo hk, h.lt⟩
theorem RcW.set (h : RcW f bf g w on wx) (i : Nat) (b : Bool) : RcW f bf g w (on.set i b) (wx.setCell ⟨g, i, none⟩ (.bool b)) :=
  ⟨⟨blk_far h.bx.box (by have := h.lt; show bf ≠ g; omega) _, h.bx.kp.setCell (fun e => by have e : g < w.heap.size := e; have := h.lt; omega) _⟩, h.bl.set i b, h.lt⟩
end
def RchR (W H : Nat) (s : ByteArray) (fr : Nat) (w : World) (e : Ending) (w' : World) : Prop :=
  ∃ g on, e = .returned (.slice (some ⟨g, 0, none⟩) s.size s.size) ∧ Blk Value.bool 4 w' g on ∧ w.heap.size ≤ g ∧ Kp No w w' ∧ on.length = s.size ∧ ∀ i : Nat, laneI s i → (on[i]? = some true ↔ Conn W H s fr i)

set_option maxHeartbeats 2000000 in
set_option maxRecDepth 100000 in
theorem reached_any (W H : Nat) (s : ByteArray) (fr : Nat) (hW1 : 1 ≤ W) (hW : W ≤ 16) (hH1 : 1 ≤ H) (hH : H ≤ 16) (hs : s.size = W * H) (hfr : fr < s.size) (w : World) :
    Calls Tryd.prog 65 #[(Flr.mk W H s).val, .int .i64 (fr : Int)] w (RchR W H s fr w) := by
  have HBX := Lib.hid (BxW.new (Flr.mk W H s) w)
  unfold Flr.val
  have hs256 : s.size ≤ 256 := by rw [hs]; exact Nat.mul_le_mul hW hH
  have HS := Lib.hid hs
  obtain ⟨n, hn⟩ : ∃ n, n = s.size := ⟨_, rfl⟩
  have hnI : ((s.size : Nat) : Int) = (n : Int) := by omega
  have HN := Lib.hid hn
  have hn256 : n ≤ 256 := by omega
  have hmk := run_mkBo n (by omega)
  have hfn : (fr : Int) < (n : Int) := by omega
  have ST := Lib.hid (RchI.start (W := W) (H := H) hfr)
  clear hs hn hs256 hfr
  go_enter Tryd.func65, Tryd.ntmps65
  obtain ⟨bf, hbf⟩ : ∃ bf, bf = w.heap.size := ⟨_, rfl⟩
  obtain ⟨w1, hw1⟩ : ∃ w1, w1 = w.alloc (.cells #[.int .i64 (W : Int), .int .i64 (H : Int), .string s] 23) := ⟨_, rfl⟩
  obtain ⟨w2, hw2⟩ : ∃ w2, w2 = w1.alloc (.cells ((List.replicate n false).map Value.bool).toArray 4) := ⟨_, rfl⟩
  obtain ⟨g, hg⟩ : ∃ g, g = w1.heap.size := ⟨_, rfl⟩
  have R0 := Lib.hid (show RcW (Flr.mk W H s) bf g w (List.replicate n false) w2 by
    rw [hw2, hg, hbf]
    refine ⟨BxW.no (w := w1) (by rw [hw1]; exact HBX.out) ((Kp.refl _ _).alloc _), blk_new w1 _, ?_⟩
    rw [hw1]; simp)
  have hcf : w2.frozen? ⟨g, fr, none⟩ = false := R0.out.bl.free fr
  have hc0 : w2.cell? ⟨g, fr, none⟩ = some (.bool false) := R0.out.bl.get (x := false) (by rw [List.getElem?_replicate, if_pos (by omega)])
  have R1 := Lib.hid (R0.out.set fr true)
  go_upto_region 1 with fail
  go_cut [5, 10, 11, 12, 13] (fun v _ _ _ _ wx => v = .slice (some ⟨g, 0, none⟩) n n ∧ wx = w2)
  case first =>
    clear hcf hc0
    go_wp2_with fail
    go_meet
    subst hg hw1 hw2
    exact ⟨by simp, by simp⟩
  case rest =>
    rw [← hbf]
    obtain ⟨rfl, rfl⟩ := hcut
    clear hmk hw1 hw2 hg hbf
    go_wp2_with fail
    go_loopg [6] (2 * n + 1) (fun gg mv wx => ∃ (mb : Bool) (on : List Bool), 2 * offs on + (if mb then 1 else 0) ≤ gg ∧ mv = .bool mb ∧ RchI W H s fr on ∧ (mb = false → RchC W H s on n) ∧ RcW (Flr.mk W H s) bf g w on wx)
    case atStart =>
      refine ⟨true, (List.replicate n false).set fr true, ?_, rfl, by have := ST.out; rwa [← HN.out] at this, by simp, R1.out⟩
      have := List.length_filter_le (fun x => !x) ((List.replicate n false).set fr true)
      unfold offs; simp at this ⊢; omega
    case round =>
      obtain ⟨mb, on, hgk, rfl, ri, rc, rw_⟩ := hrel
      have RI := Lib.hid ri; have RC := Lib.hid rc; have RW := Lib.hid rw_
      clear ri rc rw_
      cases mb with
      | false =>
        have HD := Lib.hid (RI.out.done (by have := RC.out rfl; rwa [HN.out] at this))
        have HL := Lib.hid RI.out.len
        have hnE := HN.out
        have HE := Lib.hid hnE
        clear hnE
        go_wp2_with fail
        go_ret
        exact ⟨g, on, by rw [← HE.out]; rfl, RW.out.bl, RW.out.lt.2, RW.out.bx.kp, HL.out, HD.out⟩
      | true =>
        have hgk2 : 2 * offs on < gk := by simp at hgk; omega
        obtain ⟨G, rfl⟩ : ∃ G : Nat, G = gk := ⟨_, rfl⟩
        have HG := Lib.hid hgk2
        clear hgk hgk2
        go_wp2_with fail
        obtain ⟨wo, rfl⟩ : ∃ wo : World, wo = wr := ⟨_, rfl⟩
        go_loopg [6, 7] (n + 1) (fun g2 mv iv wx => ∃ (i : Nat) (mb : Bool) (on : List Bool), g2 = n + 1 - i ∧ iv = .int .i64 i ∧ i ≤ n ∧ mv = .bool mb ∧ 2 * offs on + (if mb then 1 else 0) < G ∧ RchI W H s fr on ∧ (mb = false → RchC W H s on i) ∧ RcW (Flr.mk W H s) bf g w on wx)
        case atStart => exact ⟨0, false, on, rfl, rfl, by omega, rfl, by have := HG.out; simp; omega, RI.out, fun _ => RchC.zero, RW.out⟩
        case round =>
          clear HG RI RC RW
          obtain ⟨i, mb, on, hg2, rfl, hi, rfl, hG, ri, rc, rw_⟩ := hrel
          have RI := Lib.hid ri; have RC := Lib.hid rc; have RW := Lib.hid rw_; have HG := Lib.hid hG
          clear ri rc rw_ hG
          by_cases hlt : i < n
          · have hltI : (i : Int) < (n : Int) := by omega
            have hwi : IntKind.i64.wrap ((i : Int) + 1) = (i : Int) + 1 := IntWalk.i64_in _ (by omega)
            obtain ⟨b, hb⟩ : ∃ b, on[i]? = some b := ⟨_, List.getElem?_eq_getElem (by rw [RI.out.len, ← HN.out]; exact hlt)⟩
            have hcb : wr.cell? ⟨g, i, none⟩ = some (.bool b) := RW.out.bl.get hb
            have HB := Lib.hid hb
            cases b with
            | false =>
              have RC2 := Lib.hid (fun h => (RC.out h).off HB.out)
              clear hb hlt
              go_wp2_with fail
              go_roundg (n + 1 - (i + 1))
              case measure => omega
              case rel => exact ⟨i + 1, mb, on, rfl, by go_num, by omega, rfl, HG.out, RI.out, RC2.out, RW.out⟩
            | true =>
              have hiW : i < W * H := by have := HS.out; have := HN.out; omega
              have HIW := Lib.hid hiW
              have hb0 : wr.cell? ⟨bf, 0, none⟩ = some (.int .i64 (W : Int)) := RW.out.bx.c0
              have hb1 : wr.cell? ⟨bf, 1, none⟩ = some (.int .i64 (H : Int)) := RW.out.bx.c1
              have hb2 : wr.cell? ⟨bf, 2, none⟩ = some (.string s) := RW.out.bx.c2
              clear hb hlt hiW
              go_wp2_with fail
              refine (qbeside_any W H i s hW1 hW hH1 hH HIW.out wr).mono ?_
              rintro e w3 ⟨vB, rfl, nb⟩
              obtain ⟨AB, qB, rfl⟩ := nb.own.rd.shape
              rw [ints_len] at nb ⊢
              obtain ⟨nB, hnB⟩ : ∃ nB, nB = (besideP W H i).length := ⟨_, rfl⟩
              have hB4 : nB ≤ 4 := by rw [hnB]; exact besideP_len W H i
              rw [← hnB] at nb ⊢
              have HNB := Lib.hid hnB
              have R3 := Lib.hid (RW.out.no nb.kp); have OB := Lib.hid nb.own
              have NG := Lib.hid (show ∀ g', (Value.slice AB nB qB).ownBlock = some g' → g' ≠ g by
                intro g' hg'
                have := nb.ge g' hg'; have := RW.out.bl.lt; omega)
              clear nb hnB hb0 hb1 hb2 hcb
              go_wp2_with fail
              obtain ⟨wc, rfl⟩ : ∃ wc : World, wc = wr := ⟨_, rfl⟩
              go_loopg [6, 9] (nB + 1) (fun g3 mv jv wx => ∃ (j : Nat) (mb : Bool) (on : List Bool), g3 = nB + 1 - j ∧ jv = .int .i64 j ∧ j ≤ nB ∧ mv = .bool mb ∧ 2 * offs on + (if mb then 1 else 0) < G ∧ RchI W H s fr on ∧ on[i]? = some true ∧ (mb = false → RchC W H s on i ∧ RchD W H s on i j) ∧ RcW (Flr.mk W H s) bf g w on wx ∧ Own IK 3 wx (.slice AB nB qB) (ints (besideP W H i)))
              case atStart => exact ⟨0, mb, on, rfl, rfl, by omega, rfl, HG.out, RI.out, HB.out, fun h => ⟨RC.out h, RchD.zero⟩, R3.out, OB.out⟩
              case round =>
                clear RI RC RW HG HB R3 OB
                obtain ⟨j, mb, on, hg3, rfl, hj, rfl, hG, ri, hoi, rc, rw_, ob⟩ := hrel
                have RI := Lib.hid ri; have RC := Lib.hid rc; have RW := Lib.hid rw_; have HG := Lib.hid hG; have HOI := Lib.hid hoi; have OB := Lib.hid ob
                clear ri rc rw_ hG hoi ob
                by_cases hlt : j < nB
                · have hltI : (j : Int) < (nB : Int) := by omega
                  have hwj : IntKind.i64.wrap ((j : Int) + 1) = (j : Int) + 1 := IntWalk.i64_in _ (by omega)
                  obtain ⟨x, hx⟩ : ∃ x, (besideP W H i)[j]? = some x := ⟨_, List.getElem?_eq_getElem (by rw [← HNB.out]; exact hlt)⟩
                  have hxs : x < s.size := by rw [HS.out]; exact beside_lt hW1 HIW.out (List.mem_of_getElem? hx)
                  have hxsI : (x : Int) < ((s.size : Nat) : Int) := by omega
                  have hxn : (x : Int) < (n : Int) := by have := HN.out; omega
                  rcases OB.out.b with ⟨hv, _⟩ | ⟨gB, capB, hv, _, _, _⟩
                  · simp only [Value.slice.injEq] at hv; omega
                  simp only [Value.slice.injEq] at hv
                  obtain ⟨rfl, hzz, rfl⟩ := hv
                  clear hzz
                  have hgg : gB ≠ g := NG.out gB rfl
                  have hcb : wr.cell? ⟨gB, j, none⟩ = some (.int .i64 (x : Int)) := by have := OB.out.rd.intAt (ints_get hx); simpa using this
                  have hb2 : wr.cell? ⟨bf, 2, none⟩ = some (.string s) := RW.out.bx.c2
                  have hbt := bt_at s x
                  obtain ⟨B, hB⟩ : ∃ B, B = bt s x := ⟨_, rfl⟩
                  rw [← hB] at hbt
                  obtain ⟨t, ht⟩ : ∃ t, t = (kindB B == 2) := ⟨_, rfl⟩
                  have QL := Lib.hid (fun w => qlane_any B t ht w)
                  have HX := Lib.hid hx
                  have HT := Lib.hid (show t = true ↔ laneI s x by
                    rw [ht, hB]; simp; exact ⟨fun h => ⟨hxs, h⟩, fun h => h.2⟩)
                  obtain ⟨c, hc⟩ : ∃ c, on[x]? = some c := ⟨_, List.getElem?_eq_getElem (by rw [RI.out.len]; exact hxs)⟩
                  have hcx : wr.cell? ⟨g, x, none⟩ = some (.bool c) := RW.out.bl.get hc
                  have hcf : wr.frozen? ⟨g, x, none⟩ = false := RW.out.bl.free x
                  have HC := Lib.hid hc
                  have HGG := Lib.hid hgg
                  clear hx hB hlt hxs ht hc hgg
                  cases t with
                  | false =>
                    have RC2 := Lib.hid (fun h => And.intro (RC.out h).1 ((RC.out h).2.step HX.out (fun hl => absurd (HT.out.2 hl) (by simp))))
                    clear hcx hcf
                    go_wp2_with fail
                    go_quiet ((go_at_call 64; exact Calls.quiet_of_same (QL.out _)))
                    go_wp2_with fail
                    go_roundg (nB + 1 - (j + 1))
                    case measure => omega
                    case rel => exact ⟨j + 1, mb, on, rfl, by go_num, by omega, rfl, HG.out, RI.out, HOI.out, RC2.out, RW.out.no ((Kp.refl _ _).drewN _), OB.out.drewN _⟩
                  | true =>
                    cases c with
                    | true =>
                      have RC2 := Lib.hid (fun h => And.intro (RC.out h).1 ((RC.out h).2.step HX.out (fun _ => HC.out)))
                      go_wp2_with fail
                      go_quiet ((go_at_call 64; exact Calls.quiet_of_same (QL.out _)))
                      go_wp2_with fail
                      go_roundg (nB + 1 - (j + 1))
                      case measure => omega
                      case rel => exact ⟨j + 1, mb, on, rfl, by go_num, by omega, rfl, HG.out, RI.out, HOI.out, RC2.out, RW.out.no ((Kp.refl _ _).drewN _), OB.out.drewN _⟩
                    | false =>
                      have RI2 := Lib.hid (RI.out.put HOI.out HX.out (HT.out.1 rfl) HC.out)
                      have HO := Lib.hid (offs_set on x HC.out)
                      have HOI2 := Lib.hid (show (on.set x true)[i]? = some true by
                        rw [List.getElem?_set]; split
                        · rename_i e; subst e; have := HC.out; rw [HOI.out] at this; simp at this
                        · exact HOI.out)
                      have R2 := Lib.hid (fun k => (RW.out.no ((Kp.refl _ wr).drewN k)).set x true)
                      have O2 := Lib.hid (fun k => (OB.out.drewN k).kp ((Kp.refl (fun b => b = g) (wr.drewN k)).setCell (p := ⟨g, x, none⟩) (fun _ => rfl) (.bool true)) (fun g' hg' e => NG.out g' hg' e))
                      go_wp2_with fail
                      go_quiet ((go_at_call 64; exact Calls.quiet_of_same (QL.out _)))
                      go_wp2_with fail
                      go_roundg (nB + 1 - (j + 1))
                      case measure => omega
                      case rel => exact ⟨j + 1, true, _, rfl, by go_num, by omega, rfl, by have := HG.out; have := HO.out; split at * <;> simp <;> omega, RI2.out, HOI2.out, fun h => by simp at h, R2.out _, O2.out _⟩
                · obtain rfl : j = nB := by omega
                  have hd0 : ¬ (j : Int) < (j : Int) := by omega
                  have RC2 := Lib.hid (fun h => (RC.out h).1.onn (by rw [← HNB.out]; exact (RC.out h).2))
                  clear hlt
                  go_wp2_with fail
                  go_roundg (n + 1 - (i + 1))
                  case measure => omega
                  case rel => exact ⟨i + 1, mb, on, rfl, by go_num, by omega, rfl, HG.out, RI.out, RC2.out, RW.out⟩
          · obtain rfl : i = n := by omega
            have hd0 : ¬ (i : Int) < (i : Int) := by omega
            clear hlt
            go_wp2_with fail
            go_roundg (2 * offs on + (if mb then 1 else 0))
            case measure => exact HG.out
            case rel => exact ⟨mb, on, Nat.le_refl _, rfl, RI.out, RC.out, RW.out⟩
end Go.Proofs.YtgdokpfepfmbmaaDoor

namespace Go.Proofs.YtgdokpfepfmbmaaDoor
set_option linter.unusedVariables false
set_option linter.unusedSimpArgs false
open Go.RowKit

def cntR (s : ByteArray) (k r : Nat) : Nat := ((List.range k).filter fun i => kdS s i == 3 && bt s i == 48 + r).length
theorem cntR_succ (s : ByteArray) (k r : Nat) : cntR s (k + 1) r = cntR s k r + if kdS s k = 3 ∧ bt s k = 48 + r then 1 else 0 := by
  unfold cntR; rw [List.range_succ, List.filter_append, List.length_append]
  congr 1
  by_cases h : kdS s k = 3 ∧ bt s k = 48 + r
  · rw [if_pos h]; simp [h.1, h.2]
  · rw [if_neg h]; simp; intro h1 h2; exact h ⟨h1, h2⟩
theorem sum_set : ∀ (a : List Nat) (r x : Nat), a[r]? = some x → (a.set r (x + 1)).sum = a.sum + 1 := by
  intro a
  induction a with
  | nil => intro r x h; simp at h
  | cons y ys ih =>
    intro r x h
    rcases r with _ | r
    · simp at h; subst h; simp; omega
    · rw [List.getElem?_cons_succ] at h
      rw [List.set_cons_succ, List.sum_cons, List.sum_cons, ih r x h]; omega
theorem sum_ones : ∀ (a : List Nat) (d : Nat), d ≤ a.length → (∀ r : Nat, r < d → a[r]? = some 1) → a.sum = d → ∀ r x : Nat, d ≤ r → a[r]? = some x → x = 0 := by
  intro a
  induction a with
  | nil => intro d _ _ _ r x _ h; simp at h
  | cons y ys ih =>
    intro d hd h1 hs r x hr hx
    rw [List.sum_cons] at hs
    rcases d with _ | d
    · rcases r with _ | r
      · simp at hx; omega
      · rw [List.getElem?_cons_succ] at hx
        exact ih 0 (by omega) (fun r hr => by omega) (by omega) r x (by omega) hx
    · have hy := h1 0 (by omega)
      simp at hy; subst hy
      rcases r with _ | r
      · omega
      · rw [List.getElem?_cons_succ] at hx
        exact ih d (by simp at hd; omega) (fun r hr => by have := h1 (r + 1) (by omega); rwa [List.getElem?_cons_succ] at this) (by omega) r x (by omega) hx
structure MnI (s : ByteArray) (k : Nat) (a : List Nat) (d : Nat) : Prop where
  len : a.length = 8
  at_ : ∀ r x : Nat, a[r]? = some x → x = cntR s k r
  sum : d = a.sum
section
variable {s : ByteArray} {k d : Nat} {a : List Nat}
theorem MnI.start (s : ByteArray) : MnI s 0 (List.replicate 8 0) 0 := ⟨rfl, fun r x h => by
    rw [List.getElem?_replicate] at h
    split at h
    · simp at h; rw [← h]; rfl
    · simp at h, rfl⟩
theorem MnI.skip (h : MnI s k a d) (hk : kdS s k ≠ 3) : MnI s (k + 1) a d := ⟨h.len, fun r x e => by rw [cntR_succ, if_neg (fun h => hk h.1)]; exact h.at_ r x e, h.sum⟩
theorem MnI.take (h : MnI s k a d) {r x : Nat} (hk : kdS s k = 3) (hr : bt s k = 48 + r) (h0 : a[r]? = some x) : MnI s (k + 1) (a.set r (x + 1)) (d + 1) := by
  have hrl : r < a.length := (List.getElem?_eq_some_iff.1 h0).1
  refine ⟨by rw [List.length_set]; exact h.len, fun r' y e => ?_, by rw [sum_set a r x h0, ← h.sum]⟩
  rw [cntR_succ]
  by_cases hrr : r = r'
  · subst hrr
    rw [List.getElem?_set_self hrl] at e
    simp at e; subst e
    rw [if_pos ⟨hk, hr⟩, ← h.at_ r x h0]
  · rw [List.getElem?_set_ne hrr] at e
    rw [if_neg (by omega)]; exact h.at_ r' y e
theorem cnt_one {s : ByteArray} {n r i j : Nat} (h : cntR s n r = 1) (hi : i < n ∧ kdS s i = 3 ∧ bt s i = 48 + r) (hj : j < n ∧ kdS s j = 3 ∧ bt s j = 48 + r) : i = j := by
  unfold cntR at h
  obtain ⟨y, hy⟩ := List.length_eq_one_iff.1 h
  have h1 : i ∈ (List.range n).filter fun i => kdS s i == 3 && bt s i == 48 + r := List.mem_filter.2 ⟨List.mem_range.2 hi.1, by simp [hi.2.1, hi.2.2]⟩
  have h2 : j ∈ (List.range n).filter fun i => kdS s i == 3 && bt s i == 48 + r := List.mem_filter.2 ⟨List.mem_range.2 hj.1, by simp [hj.2.1, hj.2.2]⟩
  rw [hy] at h1 h2
  simp at h1 h2
  rw [h1, h2]
theorem cnt_pos {s : ByteArray} {n r : Nat} (h : cntR s n r ≠ 0) : ∃ i, i < n ∧ kdS s i = 3 ∧ bt s i = 48 + r := by
  unfold cntR at h
  obtain ⟨y, hy⟩ := List.exists_mem_of_length_pos (Nat.pos_of_ne_zero h)
  obtain ⟨h1, h2⟩ := List.mem_filter.1 hy
  simp at h1 h2
  exact ⟨y, h1, h2.1, h2.2⟩
theorem cnt_ne {s : ByteArray} {n r i : Nat} (hi : i < n ∧ kdS s i = 3 ∧ bt s i = 48 + r) : cntR s n r ≠ 0 := by
  intro h
  unfold cntR at h
  have h1 : i ∈ (List.range n).filter fun i => kdS s i == 3 && bt s i == 48 + r := List.mem_filter.2 ⟨List.mem_range.2 hi.1, by simp [hi.2.1, hi.2.2]⟩
  rw [List.eq_nil_of_length_eq_zero h] at h1
  simp at h1
theorem dockAt_some {s : ByteArray} {r i : Nat} (h : dockAt s r = some i) : i < s.size ∧ kdS s i = 3 ∧ bt s i = 48 + r := by
  unfold dockAt at h
  have h1 := List.find?_some h
  have h2 := List.mem_of_find?_eq_some h
  simp at h1 h2
  exact ⟨h2, h1.1, h1.2⟩
theorem dockAt_ex {s : ByteArray} {r i : Nat} (hi : i < s.size ∧ kdS s i = 3 ∧ bt s i = 48 + r) : ∃ x, dockAt s r = some x := by
  cases h : dockAt s r with
  | some x => exact ⟨x, rfl⟩
  | none =>
    unfold dockAt at h
    rw [List.find?_eq_none] at h
    have := h i (by simpa using hi.1)
    simp [hi.2.1, hi.2.2] at this
theorem cntR_len (s : ByteArray) (k r : Nat) (h : ∀ i, i < k → ¬ (kdS s i = 3 ∧ bt s i = 48 + r)) : cntR s k r = 0 := by
  apply Classical.byContradiction
  intro hc
  obtain ⟨i, h1, h2, h3⟩ := cnt_pos hc
  exact h i h1 ⟨h2, h3⟩
theorem MnI.cnt (h : MnI s k a d) : d = (docksP s k).length ∨ True := .inr trivial
theorem MnI.iff (h : MnI s s.size a d) : (∃ ds, DocksL s ds) ↔ 1 ≤ d ∧ d ≤ 8 ∧ ∀ r : Nat, r < d → a[r]? = some 1 := by
  constructor
  · rintro ⟨ds, hd⟩
    have hl := hd.len
    have hne : 1 ≤ ds.length := by rcases hh : ds with _ | _; exact absurd hh hd.ne; simp
    have hcnt : ∀ r x : Nat, a[r]? = some x → x = if r < ds.length then 1 else 0 := by
      intro r x hx
      rw [h.at_ r x hx]
      split
      · rename_i hr
        obtain ⟨i1, i2, i3⟩ := hd.at_ r _ (List.getElem?_eq_getElem hr)
        have hne := cnt_ne ⟨i1, i2, i3⟩
        rcases Nat.lt_or_ge 1 (cntR s s.size r) with h2 | h2
        · exfalso
          unfold cntR at h2
          have hnd : ((List.range s.size).filter fun i => kdS s i == 3 && bt s i == 48 + r).Nodup := List.Nodup.sublist List.filter_sublist List.nodup_range
          have hall : ∀ y ∈ (List.range s.size).filter fun i => kdS s i == 3 && bt s i == 48 + r, y = ds[r] := by
            intro y hy
            obtain ⟨h3, h4⟩ := List.mem_filter.1 hy
            simp at h3 h4
            have := hd.all y h3 h4.1
            rw [h4.2, Nat.add_sub_cancel_left, List.getElem?_eq_getElem hr] at this
            simpa using this.symm
          generalize (List.range s.size).filter (fun i => kdS s i == 3 && bt s i == 48 + r) = L at h2 hnd hall
          rcases L with _ | ⟨p, _ | ⟨q, L⟩⟩
          · simp at h2
          · simp at h2
          · have e1 := hall p (by simp)
            have e2 := hall q (by simp)
            rw [List.nodup_cons] at hnd
            exact hnd.1 (by simp [e1, e2])
        · omega
      · rename_i hr
        apply Classical.byContradiction
        intro hc
        obtain ⟨i, h1, h2, h3⟩ := cnt_pos hc
        have := hd.all i h1 h2
        rw [h3, Nat.add_sub_cancel_left] at this
        exact hr (List.getElem?_eq_some_iff.1 this).1
    have ha : a = List.replicate ds.length 1 ++ List.replicate (8 - ds.length) 0 := by
      apply List.ext_getElem?
      intro r
      rcases Nat.lt_or_ge r 8 with h8 | h8
      · have hra : r < a.length := by rw [h.len]; exact h8
        rw [List.getElem?_eq_getElem hra, hcnt r _ (List.getElem?_eq_getElem hra)]
        split
        · rw [List.getElem?_append_left (by simpa), List.getElem?_replicate, if_pos (by assumption)]
        · rw [List.getElem?_append_right (by simpa using by omega), List.getElem?_replicate, if_pos (by simp; omega)]
      · rw [List.getElem?_eq_none (by rw [h.len]; exact h8), List.getElem?_eq_none (by simp; omega)]
    have hd2 : d = ds.length := by rw [h.sum, ha]; simp
    refine ⟨by omega, by omega, fun r hr => ?_⟩
    rw [ha, List.getElem?_append_left (by simp; omega), List.getElem?_replicate, if_pos (by omega)]
  · rintro ⟨h1, h8, hall⟩
    have h0 := sum_ones a d (by rw [h.len]; exact h8) hall h.sum.symm
    have hone : ∀ r, r < d → cntR s s.size r = 1 := fun r hr => (h.at_ r 1 (hall r hr)).symm
    refine ⟨(List.range d).map fun r => (dockAt s r).getD 0, fun e => ?_, fun r i e => ?_, fun i hi h3 => ?_⟩
    · have : ((List.range d).map fun r => (dockAt s r).getD 0).length = d := by simp
      rw [e] at this; simp at this; omega
    · rw [List.getElem?_map] at e
      rcases Nat.lt_or_ge r d with hr | hr
      · rw [List.getElem?_range hr] at e
        simp at e
        obtain ⟨x, hx⟩ := cnt_pos (s := s) (n := s.size) (r := r) (by rw [hone r hr]; decide)
        obtain ⟨y, hy⟩ := dockAt_ex hx
        rw [hy] at e
        simp at e; subst e
        exact dockAt_some hy
      · rw [List.getElem?_eq_none (by simpa using hr)] at e
        simp at e
    · have hd := kd_dock h3
      have hb : bt s i = 48 + (bt s i - 48) := by unfold kdS at h3; omega
      have hr : bt s i - 48 < d := by
        rcases Nat.lt_or_ge (bt s i - 48) d with hr | hr
        · exact hr
        · exfalso
          have hra : bt s i - 48 < a.length := by rw [h.len]; omega
          have e := h0 _ _ hr (List.getElem?_eq_getElem hra)
          have e2 := h.at_ _ _ (List.getElem?_eq_getElem hra)
          exact cnt_ne ⟨hi, h3, hb⟩ (by rw [← e2, e])
      rw [List.getElem?_map, List.getElem?_range hr]
      obtain ⟨y, hy⟩ := dockAt_ex ⟨hi, h3, hb⟩
      simp only [Option.map_some, hy, Option.getD_some, Option.some.injEq]
      exact cnt_one (hone _ hr) (dockAt_some hy) ⟨hi, h3, hb⟩
end
end Go.Proofs.YtgdokpfepfmbmaaDoor
