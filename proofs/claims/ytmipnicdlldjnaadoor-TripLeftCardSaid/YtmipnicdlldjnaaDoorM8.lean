/- trip, plain: where a made trip goes, what it costs, what is lifted and dropped. No function of the program; trip, plain: zones of a rest; costs of parts. No function of the program; Slice expressions, as lists; Sets of ints beside slices that are read. No function of the program; TripLeft: the walk (written by bin/gen_l10.py). No condition. -/
import Derived.Test.YtmipnicdlldjnaaDoorM7
import Derived.Test.YtmipnicdlldjnaaDoorM1
import Derived.Test.YtmipnicdlldjnaaDoorM2

namespace Go.Proofs.YtmipnicdlldjnaaDoor
set_option linter.unusedVariables false
set_option linter.unusedSimpArgs false
open Go.RowKit

theorem goT_mem {Q : List Nat} {x : ActT} (h : x ∈ goT Q) : ∃ (k b : Nat), Q[k]? = some b ∧ x = ⟨1, (b : Int), 0⟩ := by
  unfold goT at h
  obtain ⟨b, hb, rfl⟩ := List.mem_map.1 h
  obtain ⟨k, hk⟩ := List.getElem?_of_mem hb
  exact ⟨k, b, hk, rfl⟩
theorem wk_sizeT {f : Flr} {B : List Int} {fr : Nat} (r : rightB f = true) (hfr : fr < f.s.size) {j c : Nat} (hw : Wk (stepsP f fr B) fr j c) : c < f.s.size := by
  induction hw with
  | nil => exact hfr
  | step _ hc ih => exact steps_sz (rightB_iff.1 r) ih hc
/-- A leg's acts: not blocked; lanes, but for the end. -/
theorem leg_acts {f : Flr} {B : List Int} {fr tg : Nat} {Q : List Nat} (r : rightB f = true) (hfr : fr < f.s.size) (h : FstW (stepsP f fr B) fr tg Q) (hd : dst (stepsP f fr B) fr tg = (Q.length : Int)) {k b : Nat} (hb : Q[k]? = some b) :
    ¬ (b : Int) ∈ B ∧ (k + 1 < Q.length → laneB f b = true) ∧ (k + 1 = Q.length → b = tg) := by
  obtain ⟨_, h2, h3, h4⟩ := leg_cells h hd hb
  have hk := (List.getElem?_eq_some_iff.1 hb).1
  have w := fst_walkT h (k + 1) (by omega)
  rw [nd_succ hb] at w
  exact ⟨h2, fun hl => lane_of r (wk_sizeT r hfr w) (h3 hl), h4⟩
theorem leg_lanes {f : Flr} {B : List Int} {fr tg : Nat} {Q : List Nat} (r : rightB f = true) (hfr : fr < f.s.size) (h : FstW (stepsP f fr B) fr tg Q) (hd : dst (stepsP f fr B) fr tg = (Q.length : Int)) (ht : laneB f tg = true) {x : ActT} (hx : x ∈ goT Q) : laneB f x.c = true := by
  obtain ⟨k, b, hb, rfl⟩ := goT_mem hx
  have hk := (List.getElem?_eq_some_iff.1 hb).1
  obtain ⟨_, h2, h3⟩ := leg_acts r hfr h hd hb
  rcases Nat.lt_or_ge (k + 1) Q.length with hl | hl
  · exact h2 hl
  · rw [h3 (by omega)]; exact ht
theorem leg_free {f : Flr} {B : List Int} {fr tg : Nat} {Q : List Nat} (h : FstW (stepsP f fr B) fr tg Q) (hd : dst (stepsP f fr B) fr tg = (Q.length : Int)) {x : ActT} (hx : x ∈ goT Q) : ¬ x.c ∈ B := by
  obtain ⟨k, b, hb, rfl⟩ := goT_mem hx
  exact (leg_cells h hd hb).2.1
theorem dock_laneT {f : Flr} {robot : Int} {d : Nat} (h : dockP f robot = some d) : laneB f d = false := by
  obtain ⟨_, hk, _, _⟩ := dock_okT h
  cases hl : laneB f d with
  | false => rfl
  | true =>
    obtain ⟨_, e, _, h2, _⟩ := zone_okT (show (zoneP f (d : Int)).isSome = true from hl)
    obtain rfl := Int.ofNat.inj e
    omega
theorem TripW.goes {f : Flr} {robot pod : Int} {a b d : Nat} {B : List Int} {Q1 Q2 Q3 : List Nat} (t : TripW f robot pod a b d B Q1 Q2 Q3) :
    laneB f d = false ∧ (∀ x ∈ tripT pod a b Q1 Q2 Q3, x.k = 1 → ¬ x.c ∈ B) ∧ ∃ init, tripT pod a b Q1 Q2 Q3 = init ++ [⟨1, (d : Int), 0⟩] ∧ ∀ x ∈ init, x.k = 1 → laneB f x.c = true := by
  obtain ⟨ha, hb, hd, _, _, _⟩ := t.lens
  have hdl := dock_laneT t.dk
  refine ⟨hdl, ?_, ?_⟩
  · intro x hx hk
    unfold tripT at hx
    simp only [List.mem_append, List.mem_singleton] at hx
    rcases hx with ((hx | rfl) | (hx | rfl)) | hx
    · exact leg_free t.f1 t.d1 hx
    · exact absurd hk (show ¬ (2 : Nat) = 1 by decide)
    · exact leg_free t.f2 t.d2 hx
    · exact absurd hk (show ¬ (3 : Nat) = 1 by decide)
    · exact leg_free t.f3 t.d3 hx
  · have hne : Q3.length ≠ 0 := by
      intro h0
      have h1 := t.f3.en
      rw [h0] at h1
      have e : b = d := h1
      have := t.zb
      rw [e, hdl] at this
      cases this
    have hq : Q3 = Q3.take (Q3.length - 1) ++ [d] := by
      obtain ⟨c, hc⟩ : ∃ c, Q3[Q3.length - 1]? = some c := ⟨_, List.getElem?_eq_getElem (by omega)⟩
      have h3 := (leg_acts t.r hb t.f3 t.d3 hc).2.2 (by omega)
      rw [h3] at hc
      have := List.take_add_one (l := Q3) (i := Q3.length - 1)
      rw [show Q3.length - 1 + 1 = Q3.length by omega, List.take_length, hc] at this
      exact this
    refine ⟨(goT Q1 ++ [⟨2, (a : Int), pod⟩]) ++ (goT Q2 ++ [⟨3, (b : Int), pod⟩]) ++ goT (Q3.take (Q3.length - 1)), ?_, ?_⟩
    · unfold tripT
      have : goT Q3 = goT (Q3.take (Q3.length - 1)) ++ [⟨1, (d : Int), 0⟩] := by
        conv => lhs; rw [hq]
        unfold goT; rw [List.map_append]; rfl
      rw [this]; simp
    · intro x hx hk
      simp only [List.mem_append, List.mem_singleton] at hx
      rcases hx with ((hx | rfl) | (hx | rfl)) | hx
      · exact leg_lanes t.r hd t.f1 t.d1 t.za hx
      · exact absurd hk (show ¬ (2 : Nat) = 1 by decide)
      · exact leg_lanes t.r ha t.f2 t.d2 t.zb hx
      · exact absurd hk (show ¬ (3 : Nat) = 1 by decide)
      · obtain ⟨k, c, hc, rfl⟩ := goT_mem hx
        have hk2 := (List.getElem?_eq_some_iff.1 hc).1
        rw [List.length_take] at hk2
        rw [List.getElem?_take_of_lt (by omega)] at hc
        exact (leg_acts t.r hb t.f3 t.d3 hc).2.1 (by omega)
theorem TripW.small {f : Flr} {robot pod : Int} {a b d : Nat} {B : List Int} {Q1 Q2 Q3 : List Nat} (t : TripW f robot pod a b d B Q1 Q2 Q3) (hs : f.s.size ≤ 9223372036854775807) : ∀ x ∈ tripT pod a b Q1 Q2 Q3, x.c ≤ 9223372036854775807 := by
  obtain ⟨ha, hb, hd, _, _, _⟩ := t.lens
  have go : ∀ {fr tg : Nat} {Q : List Nat}, fr < f.s.size → FstW (stepsP f fr B) fr tg Q → ∀ x ∈ goT Q, x.c ≤ 9223372036854775807 := by
    intro fr tg Q hfr h x hx
    obtain ⟨k, c, hc, rfl⟩ := goT_mem hx
    have hk := (List.getElem?_eq_some_iff.1 hc).1
    have w := fst_walkT h (k + 1) (by omega)
    rw [nd_succ hc] at w
    have := wk_sizeT t.r hfr w
    show (c : Int) ≤ _
    omega
  intro x hx
  unfold tripT at hx
  simp only [List.mem_append, List.mem_singleton] at hx
  rcases hx with ((hx | rfl) | (hx | rfl)) | hx
  · exact go hd t.f1 x hx
  · show (a : Int) ≤ _; omega
  · exact go ha t.f2 x hx
  · show (b : Int) ≤ _; omega
  · exact go hb t.f3 x hx
theorem costT_goT (Q : List Nat) : costT (goT Q) = Q.length := by
  unfold costT
  rw [List.filter_eq_self.2, goT_len]
  intro x hx
  obtain ⟨k, b, _, rfl⟩ := goT_mem hx
  rfl
theorem costT_app (l m : List ActT) : costT (l ++ m) = costT l + costT m := by unfold costT; rw [List.filter_append, List.length_append]
theorem costT_trip (pod : Int) (a b : Nat) (Q1 Q2 Q3 : List Nat) : costT (tripT pod a b Q1 Q2 Q3) = Q1.length + Q2.length + Q3.length := by
  unfold tripT
  have e2 : costT [(⟨2, (a : Int), pod⟩ : ActT)] = 0 := rfl
  have e3 : costT [(⟨3, (b : Int), pod⟩ : ActT)] = 0 := rfl
  simp only [costT_app, costT_goT, e2, e3]
  omega
/-- Where a robot stands behind acts. -/
def atT : Int → List ActT → Int
  | c, [] => c
  | c, x :: l => atT (if x.k = 1 then x.c else c) l
theorem atT_snoc (c : Int) (l : List ActT) (x : ActT) : atT c (l ++ [x]) = if x.k = 1 then x.c else atT c l := by
  induction l generalizing c with
  | nil => rfl
  | cons y l ih => exact ih _
theorem doesP_at {f : Flr} {d : Int} {s t : WkS} {x : ActT} (h : doesP f d s x = some t) : t.at_ = if x.k = 1 then x.c else s.at_ := by
  unfold doesP at h
  split at h
  · rename_i hk; rw [if_pos hk]; split at h <;> cases h; rfl
  · rename_i hk
    rw [if_neg hk]
    split at h
    · split at h <;> cases h; rfl
    · split at h
      · split at h <;> cases h; rfl
      · cases h
theorem runP_atT {f : Flr} {d : Int} : ∀ (l : List ActT) {s t : WkS}, runP f d s l = some t → t.at_ = atT s.at_ l := by
  intro l
  induction l with
  | nil => intro s t h; rw [runP] at h; cases h; rfl
  | cons x l ih =>
    intro s t h
    rw [runP] at h
    cases hd : doesP f d s x with
    | none => rw [hd] at h; cases h
    | some u =>
      rw [hd] at h
      rw [ih h, doesP_at hd]; rfl
/-- What is left of right acts is right. -/
theorem left_right {f : Flr} {robot : Int} {d : Nat} {l : List ActT} {t : WkS} (hd : dockP f robot = some d) (h : runP f (d : Int) ⟨(d : Int), -1, false⟩ l = some t) (ht : t.at_ = d) (hp : t.pod < 0) (hl : l.length ≤ 1024) (k : Nat) (hk : k ≤ l.length) :
    rightT f robot (atT d (l.take k)) (l.drop k) = true := by
  rw [← List.take_append_drop k l, runP_append] at h
  cases hs : runP f (d : Int) ⟨(d : Int), -1, false⟩ (l.take k) with
  | none => rw [hs] at h; cases h
  | some s =>
    rw [hs, Option.bind_some] at h
    have ha := runP_atT _ hs
    have hsim : Sim s ⟨s.at_, -1, false⟩ := ⟨rfl, .inr ⟨rfl, rfl⟩⟩
    obtain ⟨t', e, h1, h2⟩ := hsim.run _ h
    have hpl : ∀ j, j ≤ k → ∀ u, runP f (d : Int) ⟨(d : Int), -1, false⟩ (l.take j) = some u → laneB f u.at_ = true ∨ u.at_ = d := by
      intro j
      induction j with
      | zero => intro _ u hu; rw [List.take_zero, runP] at hu; cases hu; exact .inr rfl
      | succ j ih =>
        intro hj u hu
        obtain ⟨x, hx⟩ : ∃ x, l[j]? = some x := ⟨_, List.getElem?_eq_getElem (by omega)⟩
        rw [runP_at hx] at hu
        cases hv : runP f (d : Int) ⟨(d : Int), -1, false⟩ (l.take j) with
        | none => rw [hv] at hu; cases hu
        | some v =>
          rw [hv, Option.bind_some] at hu
          have e := doesP_at hu
          by_cases hk1 : x.k = 1
          · rw [if_pos hk1] at e
            unfold doesP at hu
            rw [if_pos hk1] at hu
            split at hu
            · rename_i hg
              unfold goB at hg
              simp only [Bool.and_eq_true, Bool.or_eq_true, decide_eq_true_eq] at hg
              rw [e]; exact hg.2
            · cases hu
          · rw [if_neg hk1] at e
            rw [e]; exact ih (by omega) v hv
    have hlane := hpl k (Nat.le_refl _) s hs
    unfold rightT
    rw [hd]
    have hat : atT (d : Int) (l.take k) = s.at_ := ha.symm
    simp only [hat, e]
    have hb1 : (laneB f s.at_ || decide (s.at_ = (d : Int))) = true := by simpa using hlane
    have hb2 : (l.drop k).length ≤ 1024 := by rw [List.length_drop]; omega
    have hb3 : t'.at_ = (d : Int) := by rw [h1]; exact ht
    have hb4 : t'.pod < 0 := by rcases h2 with ⟨e2, _⟩ | ⟨e2, _⟩ <;> rw [e2]; exact hp; decide
    rw [hb1]
    simp only [List.length_drop] at hb2
    simp [hb3, hb4]; omega
/-- Each step of a made trip. -/
theorem TripW.each {f : Flr} {robot pod : Int} {a b d : Nat} {B : List Int} {Q1 Q2 Q3 : List Nat} (t : TripW f robot pod a b d B Q1 Q2 Q3) : ∀ (i : Nat) x, (tripT pod a b Q1 Q2 Q3)[i]? = some x → x.k = 1 →
    x.c ∈ ints (nearP f (atT d ((tripT pod a b Q1 Q2 Q3).take i))) ∧ ¬ x.c ∈ B ∧ (laneB f x.c = decide (i + 1 < (tripT pod a b Q1 Q2 Q3).length)) ∧ (laneB f x.c = false → x.c = d) := by
  intro i x hx hk
  have hr := t.run
  obtain ⟨hdl, hB, init, hin, hl⟩ := t.goes
  obtain ⟨l, hll⟩ : ∃ l, l = tripT pod a b Q1 Q2 Q3 := ⟨_, rfl⟩
  rw [← hll] at hx hr hB hin ⊢
  have hi := (List.getElem?_eq_some_iff.1 hx).1
  have h2 := hr
  rw [← List.take_append_drop (i + 1) l, runP_append, runP_at hx] at h2
  cases hs : runP f (d : Int) ⟨(d : Int), -1, false⟩ (l.take i) with
  | none => rw [hs] at h2; cases h2
  | some u =>
    rw [hs, Option.bind_some] at h2
    cases hd : doesP f (d : Int) u x with
    | none => rw [hd] at h2; cases h2
    | some v =>
      have hg : goB f (d : Int) u x = true := by
        unfold doesP at hd
        rw [if_pos hk] at hd
        split at hd
        · assumption
        · cases hd
      unfold goB at hg
      simp only [Bool.and_eq_true, Bool.or_eq_true, decide_eq_true_eq] at hg
      have ha := runP_atT _ hs
      simp only at ha
      refine ⟨by rw [← ha]; exact hg.1.2, hB x (List.mem_of_getElem? hx) hk, ?_, fun h => ?_⟩
      · have hlen : l.length = init.length + 1 := by rw [hin]; simp
        rcases Nat.lt_or_ge i init.length with h | h
        · rw [hin, List.getElem?_append_left h] at hx
          rw [hl x (List.mem_of_getElem? hx) hk]
          symm; simp; omega
        · rw [hin, List.getElem?_append_right h, show i - init.length = 0 by omega] at hx
          simp at hx
          subst hx
          rw [hdl]
          symm; simp; omega
      · rcases hg.2 with h1 | h1
        · rw [h] at h1; cases h1
        · exact h1
end Go.Proofs.YtmipnicdlldjnaaDoor

namespace Go.Proofs.YtmipnicdlldjnaaDoor
set_option linter.unusedVariables false
set_option linter.unusedSimpArgs false
open Go.RowKit

theorem mem_compact_of (zs : List Int) : ∀ (j : Nat) x, zs[j]? = some x → x ∈ Lib.compact zs := by
  intro j
  induction j with
  | zero =>
    intro x hx
    have hl := (List.getElem?_eq_some_iff.1 hx).1
    unfold Lib.compact Lib.compactUpTo
    refine List.mem_map.2 ⟨0, List.mem_filter.2 ⟨List.mem_range.2 hl, Lib.keeps_lt_one _ 0 (by omega)⟩, getB hx⟩
  | succ j ih =>
    intro x hx
    have hl := (List.getElem?_eq_some_iff.1 hx).1
    cases hk : Lib.keeps zs.toArray (j + 1) with
    | true =>
      unfold Lib.compact Lib.compactUpTo
      exact List.mem_map.2 ⟨j + 1, List.mem_filter.2 ⟨List.mem_range.2 hl, hk⟩, getB hx⟩
    | false =>
      obtain ⟨y, hy⟩ : ∃ y, zs[j]? = some y := ⟨_, List.getElem?_eq_getElem (by omega)⟩
      have e : x = y := by
        unfold Lib.keeps at hk
        simp only [getB hx, Nat.add_sub_cancel, getB hy] at hk
        simpa using hk
      subst e
      exact ih x hy
theorem compact_mem {zs : List Int} {x : Int} (h : x ∈ Lib.compact zs) : x ∈ zs := by
  unfold Lib.compact Lib.compactUpTo at h
  obtain ⟨j, hj, rfl⟩ := List.mem_map.1 h
  have := List.mem_range.1 (List.mem_filter.1 hj).1
  rw [getB (List.getElem?_eq_getElem this)]
  exact List.getElem_mem this
theorem mem_zonesR {f : Flr} {l : List ActT} {z : Int} : z ∈ zonesR f l ↔ z ∈ zonesT f l := by
  unfold zonesR
  constructor
  · intro h
    exact List.mem_mergeSort.1 (compact_mem h)
  · intro h
    obtain ⟨j, hj⟩ := List.getElem?_of_mem (List.mem_mergeSort.2 h : z ∈ (zonesT f l).mergeSort fun x y => decide (x ≤ y))
    exact mem_compact_of _ j z hj
theorem zones_drop {f : Flr} {l : List ActT} {k : Nat} {z : Int} (h : z ∈ zonesR f (l.drop k)) : z ∈ zonesR f l := by
  rw [mem_zonesR] at h ⊢
  unfold zonesT at h ⊢
  rw [← List.take_append_drop k l, List.filterMap_append]
  exact List.mem_append_right _ h
theorem zonesR_len (f : Flr) (l : List ActT) : (zonesR f l).length ≤ l.length := by
  unfold zonesR
  refine Nat.le_trans (compact_len _) ?_
  rw [List.length_mergeSort]
  exact zonesT_len f l
theorem cost_parts (l : List ActT) (k : Nat) : costT (l.take k) + costT (l.drop k) = costT l := by
  rw [← costT_app, List.take_append_drop]
theorem costT_len (l : List ActT) : costT l ≤ l.length := by unfold costT; exact List.length_filter_le _ _
theorem mem_addS {L : List Int} {c z : Int} : z ∈ addS L c ↔ z ∈ L ∨ z = c := by
  unfold addS
  split
  · constructor
    · exact .inl
    · rintro (h | rfl) <;> assumption
  · simp
end Go.Proofs.YtmipnicdlldjnaaDoor

namespace Go.Proofs.YtmipnicdlldjnaaDoor
set_option linter.unusedVariables false
set_option linter.unusedSimpArgs false
open Go.RowKit

section
variable {α : Type} {K : Kd α} {P : Program} {t e : TypeId} {bytes : Nat}
theorem Kd.encs_mid (K : Kd α) (l : List α) (a b j : Nat) (u : Value) (h : (K.encs ((l.drop a).take b))[j]? = some u) : (K.encs l)[a * K.sz + j]? = some u := by
  rw [← K.encs_take, List.getElem?_take] at h
  split at h
  · rw [← K.encs_drop, List.getElem?_drop] at h; exact h
  · exact absurd h (by simp)
/-- 's[lo:hi]', as a list. -/
theorem Rd.mid (E : ElT P t e K bytes) {w : World} {v : Value} {l : List α} (h : Rd K w v l) (lo hi : Nat) (h1 : lo ≤ hi) (h2 : hi ≤ l.length) (x y : Int) (hx : x = lo) (hy : y = hi) :
    ∃ v2, (∀ w', (Instr.slice t v (some (.int .i64 x)) (some (.int .i64 y)) none).run P w' = .ok v2 w') ∧ Rd K w v2 ((l.drop lo).take (hi - lo)) ∧ (∀ g, v2.ownBlock = some g → v.ownBlock = some g) := by
  rcases h with ⟨⟨A, c, rfl⟩, rfl⟩ | ⟨g, o, cap, rfl, c1, c2, c3⟩
  · obtain rfl : hi = 0 := by simpa using h2
    obtain rfl : lo = 0 := by omega
    subst hx hy
    exact ⟨_, fun w' => run_slice_e_lohi E A c w', by simpa using Rd.empty K w A c, fun g hg => hg⟩
  · obtain ⟨o', ho, hr⟩ := run_slice_lohi E g o l.length cap lo hi h1 (by omega) x y hx hy
    have hln : ((l.drop lo).take (hi - lo)).length = hi - lo := by rw [List.length_take, List.length_drop]; omega
    refine ⟨_, hr, .inr ⟨g, o', cap - lo, by rw [hln], by rw [hln]; omega, by omega, fun j u hu => ?_⟩, fun g' hg' => hg'⟩
    have hne : lo < cap := by
      rcases Nat.lt_or_ge lo cap with h | h
      · exact h
      · have h0 : (l.drop lo).take (hi - lo) = [] := List.eq_nil_of_length_eq_zero (by omega)
        rw [h0] at hu; simp [Kd.encs] at hu
    have := c3 _ u (K.encs_mid l lo (hi - lo) j u hu)
    rw [ho hne, Nat.add_assoc]
    exact this
/-- The same, with a name for what is read, and the value written out. -/
theorem Rd.upto2 (E : ElT P t e K bytes) {w : World} {v : Value} {l : List α} (h : Rd K w v l) (p : Nat) (hp : p ≤ l.length) (x : Int) (hx : x = p) :
    ∃ s A c, Hid (s = l.take p) ∧ s.length = p ∧ (∀ w', (Instr.slice t v none (some (.int .i64 x)) none).run P w' = .ok (.slice A s.length c) w') ∧ Hid (Rd K w (.slice A s.length c) s) ∧ Hid (∀ g, (Value.slice A s.length c).ownBlock = some g → v.ownBlock = some g) := by
  obtain ⟨v2, h1, h2, h3⟩ := h.upto E p hp x hx
  obtain ⟨A, c, rfl⟩ := h2.shape
  exact ⟨_, A, c, rfl, by rw [List.length_take]; omega, h1, h2, h3⟩
theorem Rd.mid2 (E : ElT P t e K bytes) {w : World} {v : Value} {l : List α} (h : Rd K w v l) (lo hi : Nat) (h1 : lo ≤ hi) (h2 : hi ≤ l.length) (x y : Int) (hx : x = lo) (hy : y = hi) :
    ∃ s A c, Hid (s = (l.drop lo).take (hi - lo)) ∧ s.length = hi - lo ∧ (∀ w', (Instr.slice t v (some (.int .i64 x)) (some (.int .i64 y)) none).run P w' = .ok (.slice A s.length c) w') ∧ Hid (Rd K w (.slice A s.length c) s) ∧ Hid (∀ g, (Value.slice A s.length c).ownBlock = some g → v.ownBlock = some g) := by
  obtain ⟨v2, k1, k2, k3⟩ := h.mid E lo hi h1 h2 x y hx hy
  obtain ⟨A, c, rfl⟩ := k2.shape
  exact ⟨_, A, c, rfl, by rw [List.length_take, List.length_drop]; omega, k1, k2, k3⟩
theorem Rd.from2 (E : ElT P t e K bytes) {w : World} {v : Value} {l : List α} (h : Rd K w v l) (lo : Nat) (h1 : lo ≤ l.length) (x : Int) (hx : x = lo) :
    ∃ s A c, Hid (s = l.drop lo) ∧ s.length = l.length - lo ∧ (∀ w', (Instr.slice t v (some (.int .i64 x)) none none).run P w' = .ok (.slice A s.length c) w') ∧ Hid (Rd K w (.slice A s.length c) s) ∧ Hid (∀ g, (Value.slice A s.length c).ownBlock = some g → v.ownBlock = some g) := by
  obtain ⟨v2, k1, k2, k3⟩ := h.from E lo h1 x hx
  obtain ⟨A, c, rfl⟩ := k2.shape
  exact ⟨_, A, c, rfl, by rw [List.length_drop], k1, k2, k3⟩
end
end Go.Proofs.YtmipnicdlldjnaaDoor

namespace Go.Proofs.YtmipnicdlldjnaaDoor
set_option linter.unusedVariables false
set_option linter.unusedSimpArgs false
open Go.RowKit

theorem Rd.kpMap {α : Type} {K : Kd α} {w w' : World} {v : Value} {l : List α} {b : Nat} {M : List Int} (h : Rd K w v l) (hs : SetI w b M) (hk : Kp (fun k => k = b) w w') : Rd K w' v l := by
  rcases h with ⟨⟨A, c, rfl⟩, rfl⟩ | ⟨g, o, cap, rfl, c1, c2, c3⟩
  · exact .inl ⟨⟨A, c, rfl⟩, rfl⟩
  · refine .inr ⟨g, o, cap, rfl, c1, c2, fun j u hu => ?_⟩
    have h3 := c3 j u hu
    refine hk.cellS h3 ?_
    intro e
    have e : g = b := e
    obtain ⟨arr, clk, hb, _⟩ := hs
    rw [e] at h3
    simp [World.cell?, hb] at h3
end Go.Proofs.YtmipnicdlldjnaaDoor

namespace Go.Proofs.YtmipnicdlldjnaaDoor
set_option linter.unusedVariables false
set_option linter.unusedSimpArgs false
open Go.RowKit

set_option maxHeartbeats 4000000 in
set_option maxRecDepth 100000 in
theorem left_row (x : Cb) {w : World} (hx : x.Ok w) (u : Nat) (hu : u ≤ 255) : Calls Tryd.prog 6 #[x.val, .int .u8 (u : Int)] w fun e w' => e = .returned (.bool true) ∧ Kp No w w' := by
  have HSH := Lib.hid shown10_any
  obtain ⟨t, ht⟩ : ∃ t, t = (decide (x.f.s.size ≤ 60) && decide (x.B.length ≤ 30)) := ⟨_, rfl⟩
  have SM := Lib.hid (small10_any x hx t ht)
  have H60 := Lib.hid (show t = true → x.f.s.size ≤ 60 ∧ x.B.length ≤ 30 by intro e; rw [ht] at e; simpa using e)
  obtain ⟨f, rb, pod, fr, tg, bv, B⟩ := x
  obtain ⟨hsz, hrb, hfr, htg, hB⟩ := hx
  simp only at hsz hrb hfr htg hB H60
  unfold Cb.val at SM ⊢
  simp only at SM ⊢
  obtain ⟨F, hF⟩ : ∃ F, F = f := ⟨_, rfl⟩
  have HF := Lib.hid hF
  rw [← hF] at H60
  have MK := Lib.hid (fun (h60 : F.s.size ≤ 60) wx (hk : Kp No w wx) => tpMake_any F (by omega) rb pod fr tg hrb hfr htg (hB.kpNo hk))
  have DK := Lib.hid (fun (h60 : F.s.size ≤ 60) wx => dock_any F (by omega) rb hrb wx)
  have ZS := Lib.hid (fun (h60 : F.s.size ≤ 60) l (hlb : l.length ≤ 1000000) (hc : ∀ x ∈ l, x.c ≤ 9223372036854775807) wx v (hl : Rd AcK wx v l) => tpZones_any F (by omega) hl hlb hc)
  have RT := Lib.hid (fun (h60 : F.s.size ≤ 60) (d : Int) (hd : d ≤ 9223372036854775807) l (hc : ∀ x ∈ l, x.c ≤ 9223372036854775807) (hr : rightT F rb d l = true) wx v (hv : Rd AcK wx v l) => tpRight_any F (by omega) rb d hrb hd hv hc true hr)
  obtain ⟨X, Y, s⟩ := f
  simp only at SM ⊢
  have HV := Lib.hid (show F.val = .agg #[.int .i64 X, .int .i64 Y, .string s] by rw [hF]; rfl)
  rw [HV.out] at MK DK ZS RT
  obtain ⟨w1, hw1⟩ : ∃ y : World, y = w.alloc (.cells #[.int .i64 X, .int .i64 Y, .string s, .int .i64 rb, .int .i64 pod, .int .i64 fr, .int .i64 tg, bv] 26) := ⟨_, rfl⟩
  have BX := Lib.hid (show w1.heap[w.heap.size]? = some (.cells #[.int .i64 X, .int .i64 Y, .string s, .int .i64 rb, .int .i64 pod, .int .i64 fr, .int .i64 tg, bv] 26 (0, 0)) by rw [hw1]; exact blk_new w _)
  have KB := Lib.hid (show Kp No w w1 by rw [hw1]; exact (Kp.refl _ _).alloc _)
  have HB := Lib.hid (fun wx (hk : Kp No w1 wx) => hB.kpNo (KB.out.no hk))
  have HW1 := Lib.hid hw1
  have LB := Lib.hid (fun wx (hk : Kp No w1 wx) => case10_cells BX.out hk)
  clear hsz hrb hfr htg hB ht hF hw1
  go_enter Tryd.func6, Tryd.ntmps6
  go_upto_region 1 with fail
  rw [← HW1.out]
  go_wp2_with fail
  refine (HSH.out _).mono ?_
  rintro e w2 ⟨rfl, k2⟩
  have K2 := Lib.hid k2
  clear k2
  obtain ⟨c0, c1, c2, c3, c4, c5, c6, c7⟩ := LB.out w2 K2.out
  go_wp2_with fail
  refine (SM.out _).mono ?_
  rintro e w3 ⟨rfl, k3⟩
  have K3 := Lib.hid (K2.out.no k3)
  clear k3 c0 c1 c2 c3 c4 c5 c6 c7
  cases t with
  | false =>
    go_wp2_with fail
    go_ret
    exact ⟨rfl, KB.out.no K3.out⟩
  | true =>
    obtain ⟨h60, h30⟩ := H60.out (by first | rfl | trivial)
    have HC := Lib.hid h60
    have HC30 := Lib.hid h30
    clear h60 h30
    obtain ⟨c0, c1, c2, c3, c4, c5, c6, c7⟩ := LB.out w3 K3.out
    go_wp2_with fail
    refine (MK.out HC.out _ (KB.out.no K3.out)).mono ?_
    rintro e w4 ⟨out, Ao, qo, er, hm, rfl, no⟩
    have NO := Lib.hid no
    have HM := Lib.hid hm
    have K4 := Lib.hid (K3.out.no no.kp)
    have HER := Lib.hid (show er = 0 ∨ (er = 1 ∧ out = []) ∨ (er = 2 ∧ out = []) by cases hm <;> simp)
    clear hm no c0 c1 c2 c3 c4 c5 c6 c7
    have hwu : IntKind.i64.wrap (u : Int) = (u : Int) := IntWalk.i64_in _ (by omega)
    by_cases he : er ≠ 0
    · have HEE := Lib.hid (show (er = 1 ∨ er = 2) by rcases HER.out with h | ⟨h, h2⟩ | ⟨h, h2⟩; exact absurd h he; exact .inl h; exact .inr h)
      obtain ⟨dv, hdv⟩ : ∃ z : Nat, z = (dockP F rb).getD 0 := ⟨_, rfl⟩
      obtain ⟨ib, hib⟩ : ∃ z : Bool, z = (dockP F rb).isSome := ⟨_, rfl⟩
      have D0 := Lib.hid (show ∀ wx, Calls Tryd.prog 10 #[.agg #[.int .i64 X, .int .i64 Y, .string s], .int .i64 rb] wx fun e w' => e = .returned (.tuple #[.int .i64 (dv : Int), .bool ib]) ∧ Kp No wx w' from fun wx => by have h := DK.out HC.out wx; rw [hdv, hib]; exact h)
      obtain ⟨c0, c1, c2, c3, c4, c5, c6, c7⟩ := LB.out w4 K4.out
      clear hdv hib
      rcases HEE.out with rfl | rfl
      all_goals
        go_wp2_with fail
        refine (D0.out _).mono ?_
        rintro e w5 ⟨rfl, k5⟩
        have K5 := Lib.hid (K4.out.no k5)
        clear k5
        go_wp2_with fail
        go_ret
        exact ⟨rfl, KB.out.no K5.out⟩
    have he : er = 0 := by omega
    subst he
    obtain ⟨a, b, d, Q1, Q2, Q3, hfa, hgb, hout, tw⟩ := made_trip HM.out rfl
    subst hfa hgb
    have D1 := Lib.hid (show ∀ wx, Calls Tryd.prog 10 #[.agg #[.int .i64 X, .int .i64 Y, .string s], .int .i64 rb] wx fun e w' => e = .returned (.tuple #[.int .i64 (d : Int), .bool true]) ∧ Kp No wx w' from fun wx => by have h := DK.out HC.out wx; rw [tw.dk] at h; exact h)
    have HMB := Lib.hid (show ∀ x ∈ out, x.c ≤ 9223372036854775807 by rw [hout]; exact tw.small (by have := HC.out; omega))
    have DM := Lib.hid (show (d : Int) ≤ 9223372036854775807 by have := tw.lens; have := HC.out; omega)
    obtain ⟨n, hn⟩ : ∃ z, z = out.length := ⟨_, rfl⟩
    have hn2 : n ≤ 1000 := by rw [hn, hout, tripT_len]; have := tw.lens; omega
    have LR := Lib.hid (show ∀ k, k ≤ out.length → rightT F rb (atT d (out.take k)) (out.drop k) = true from fun k hk => left_right tw.dk (by rw [hout]; exact tw.run) rfl (show (-1 : Int) < 0 by decide) (by rw [← hn]; omega) k hk)
    have HN := Lib.hid hn
    have NO2 := Lib.hid (show NewS AcK 36 w3 w4 (.slice Ao n qo) out by rw [hn]; exact NO.out)
    obtain ⟨m, hm⟩ : ∃ z, z = n + 1 := ⟨_, rfl⟩
    obtain ⟨k, hk⟩ : ∃ z, z = u % m := ⟨_, rfl⟩
    have hkn : k ≤ n := by have := Nat.mod_lt u (show 0 < m by omega); omega
    have hwm : IntKind.i64.wrap ((n : Int) + 1) = (m : Int) := by rw [IntWalk.i64_in _ (by omega)]; omega
    have hmz : ((m : Int) == 0) = false := by simp; omega
    have hm0 : ¬ m = 0 := by omega
    have hm0I : ¬ (m : Int) = 0 := by omega
    have htm : (u : Int).tmod (m : Int) = (k : Int) := by rw [Int.tmod_eq_emod_of_nonneg (by omega), hk]; rfl
    have hwk : IntKind.i64.wrap (k : Int) = (k : Int) := IntWalk.i64_in _ (by omega)
    rw [← hn]
    obtain ⟨c0, c1, c2, c3, c4, c5, c6, c7⟩ := LB.out w4 K4.out
    clear hout tw hn hm hk HM
    go_wp2_with fail
    refine (D1.out _).mono ?_
    rintro e w5 ⟨rfl, k5⟩
    have K5 := Lib.hid (K4.out.no k5)
    have OW := Lib.hid (show Rd AcK w5 (.slice Ao n qo) out from NO2.out.own.rd.kpNo k5)
    clear k5 c0 c1 c2 c3 c4 c5 c6 c7
    have hmm := @run_makeMap Tryd.prog
    go_upto_region 9 with fail
    clear hmm
    obtain ⟨w6, hw6⟩ : ∃ y : World, y = w5.alloc (.map #[] 0) := ⟨_, rfl⟩
    rw [← hw6]
    have ST0 := Lib.hid (show SetI w6 w5.heap.size [] by rw [hw6]; exact SetI.made w5)
    have K6 := Lib.hid (show Kp No w5 w6 by rw [hw6]; exact (Kp.refl _ _).alloc _)
    clear hw6
    obtain ⟨c0, c1, c2, c3, c4, c5, c6, c7⟩ := LB.out w6 (K5.out.no K6.out)
    go_wp2_with fail
    refine (ZS.out HC.out out (by rw [← HN.out]; omega) HMB.out _ _ (OW.out.kpNo K6.out)).mono ?_
    rintro e w7 ⟨vz, rfl, rz, k7⟩
    have K7 := Lib.hid (K6.out.no k7)
    have ST1 := Lib.hid (ST0.out.kp k7 (no_no _))
    obtain ⟨Zs, hZs⟩ : ∃ z, z = zonesR F out := ⟨_, rfl⟩
    have HZ := Lib.hid hZs
    rw [← hZs] at rz
    obtain ⟨Az, qz, rfl⟩ := rz.shape
    obtain ⟨nz, hnz⟩ : ∃ z, z = Zs.length := ⟨_, rfl⟩
    rw [← hnz] at rz ⊢
    have hnz2 : nz ≤ 1000 := by rw [hnz, hZs]; refine Nat.le_trans (zonesR_len _ _) ?_; rw [← HN.out]; exact hn2
    have RZ := Lib.hid rz; have HNZ := Lib.hid hnz
    clear rz hnz hZs k7 c0 c1 c2 c3 c4 c5 c6 c7
    go_wp2_with fail
    go_loopg [63] (nz + 1) (fun g_ iv wx => ∃ (i : Nat) (M : List Int), g_ = nz + 1 - i ∧ iv = .int .i64 (i : Int) ∧ i ≤ nz ∧ SetI wx w5.heap.size M ∧ (∀ z, z ∈ Zs.take i → z ∈ M) ∧ Kp No w5 wx ∧ Rd IK wx (.slice Az nz qz) Zs)
    case atStart => exact ⟨0, [], rfl, rfl, by omega, ST1.out, fun z hz => by simp at hz, K7.out, RZ.out⟩
    case round =>
      obtain ⟨i, M, hg, rfl, hi, st, hM, kp, rz⟩ := hrel
      have ST := Lib.hid st; have HMM := Lib.hid hM; have KP := Lib.hid kp; have RZ2 := Lib.hid rz
      clear st hM kp rz
      by_cases hlt : i < nz
      · have hltI : (i : Int) < (nz : Int) := by omega
        have hwi : IntKind.i64.wrap ((i : Int) + 1) = (i : Int) + 1 := IntWalk.i64_in _ (by omega)
        obtain ⟨z, hz⟩ : ∃ z, Zs[i]? = some z := ⟨_, List.getElem?_eq_getElem (by rw [← HNZ.out]; exact hlt)⟩
        rcases RZ2.out with ⟨_, he⟩ | ⟨g, o, cap', hv, _⟩
        · have := HNZ.out; rw [he, List.length_nil] at this; omega
        simp only [Value.slice.injEq] at hv
        obtain ⟨rfl, hzz, rfl⟩ := hv
        have hcz := RZ2.out.intAt hz
        obtain ⟨w8, hup, st8, k8⟩ := ST.out.add mapB z
        have K8 := Lib.hid k8
        have ST8 := Lib.hid st8
        have HZM := Lib.hid (show ∀ y, y ∈ Zs.take (i + 1) → y ∈ addS M z by
          intro y hy
          rw [List.take_add_one, hz] at hy
          rw [mem_addS]
          rcases List.mem_append.1 hy with h | h
          · exact .inl (HMM.out y h)
          · right; simpa using h)
        clear hz hzz hlt st8 k8
        go_wp2_with fail
        go_roundg (nz + 1 - (i + 1))
        case measure => omega
        case rel => exact ⟨i + 1, addS M z, rfl, by go_num, by omega, ST8.out, HZM.out, KP.out.newP K8.out (Nat.le_refl _), RZ2.out.kpMap ST.out K8.out⟩
      · obtain rfl : nz = i := by omega
        have hd0 : ¬ (nz : Int) < (nz : Int) := by omega
        have HA := Lib.hid (show ∀ y, y ∈ Zs → y ∈ M from fun y hy => HMM.out y (by rw [HNZ.out, List.take_length]; exact hy))
        obtain ⟨w8, hw8⟩ : ∃ y, y = wr := ⟨_, rfl⟩
        subst hw8
        clear hlt
        go_wp2_with fail
        go_loopg [8, 14, 77] (k + 1) (fun g_ av lv iv wx => ∃ (i : Nat) (at_ : Int), g_ = k + 1 - i ∧ iv = .int .i64 (i : Int) ∧ i ≤ k ∧ av = .int .i64 at_ ∧ at_ = atT d (out.take i) ∧ at_ ≤ 9223372036854775807 ∧ Kp No w8 wx)
        case atStart => exact ⟨0, d, rfl, rfl, by omega, rfl, rfl, DM.out, Kp.refl _ _⟩
        case round =>
          obtain ⟨i, at_, hg, rfl, hi, rfl, hat, ham, kp⟩ := hrel
          have HAT := Lib.hid hat; have HAM := Lib.hid ham; have KP2 := Lib.hid kp
          clear hat ham kp
          by_cases hlt : i < k
          · have hltI : (i : Int) < (k : Int) := by omega
            have hwi : IntKind.i64.wrap ((i : Int) + 1) = (i : Int) + 1 := IntWalk.i64_in _ (by omega)
            obtain ⟨x, hx⟩ : ∃ x, out[i]? = some x := ⟨_, List.getElem?_eq_getElem (by rw [← HN.out]; omega)⟩
            have RO := Lib.hid (OW.out.kpNo (KP.out.no KP2.out))
            rcases RO.out with ⟨_, he⟩ | ⟨g, o, cap', hv, _⟩
            · have := HN.out; rw [he, List.length_nil] at this; omega
            simp only [Value.slice.injEq] at hv
            obtain ⟨rfl, hzz, rfl⟩ := hv
            have hin : ((i : Int) < (n : Int)) := by omega
            have hi0 : ¬ ((i : Int) < 0) := by omega
            obtain ⟨x0, x1, x2, x3⟩ := RO.out.actAt hx
            have HS := Lib.hid (show atT d (out.take (i + 1)) = if x.k = 1 then x.c else at_ by rw [List.take_add_one, hx, HAT.out]; exact atT_snoc _ _ _)
            have HXM := Lib.hid (HMB.out x (List.mem_of_getElem? hx))
            by_cases hk1 : x.k = 1
            · have hk1b : ((x.k : Int) == 1) = true := by simp; omega
              have HS2 := Lib.hid (show x.c = atT d (out.take (i + 1)) by rw [HS.out, if_pos hk1])
              clear hx hzz hlt hk1
              go_wp2_with fail
              go_roundg (k + 1 - (i + 1))
              case measure => omega
              case rel => exact ⟨i + 1, x.c, rfl, by go_num, by omega, rfl, HS2.out, HXM.out, KP2.out⟩
            · have hk1b : ((x.k : Int) == 1) = false := by simp; omega
              have HS2 := Lib.hid (show at_ = atT d (out.take (i + 1)) by rw [HS.out, if_neg hk1])
              clear hx hzz hlt hk1
              go_wp2_with fail
              go_roundg (k + 1 - (i + 1))
              case measure => omega
              case rel => exact ⟨i + 1, at_, rfl, by go_num, by omega, rfl, HS2.out, HAM.out, KP2.out⟩
          · obtain rfl : k = i := by omega
            have hd0 : ¬ (k : Int) < (k : Int) := by omega
            obtain ⟨w9, hw9⟩ : ∃ y, y = wr := ⟨_, rfl⟩
            subst hw9
            have K9 := Lib.hid (KP.out.no KP2.out)
            have ST9 := Lib.hid (ST.out.kp KP2.out (no_no _))
            have O9 := Lib.hid (OW.out.kpNo K9.out)
            obtain ⟨sd, Ad, qd, hsd, hdl, hrd, hRd, _⟩ := O9.out.from2 elAc k (by rw [← HN.out]; exact hkn) (k : Int) rfl
            obtain ⟨sp, Ap, qp, hsp, hpl, hrp, hRp, _⟩ := O9.out.upto2 elAc k (by rw [← HN.out]; exact hkn) (k : Int) rfl
            obtain ⟨nd, hnd⟩ : ∃ z, z = sd.length := ⟨_, rfl⟩
            obtain ⟨np, hnp⟩ : ∃ z, z = sp.length := ⟨_, rfl⟩
            rw [← hnd] at hrd hRd hdl; rw [← hnp] at hrp hRp hpl
            have hndb : nd ≤ 1000 := by rw [hdl, ← HN.out]; omega
            have hnpb : np ≤ 1000 := by omega
            have HND := Lib.hid hnd; have HNP := Lib.hid hnp
            have HMD := Lib.hid (show ∀ x ∈ sd, x.c ≤ 9223372036854775807 from fun x hx => HMB.out x (by rw [hsd.out] at hx; exact List.mem_of_mem_drop hx))
            have RR := Lib.hid (RT.out HC.out at_ HAM.out sd HMD.out (by rw [hsd.out, HAT.out]; exact LR.out k (by rw [← HN.out]; exact hkn)))
            have ZD := Lib.hid (ZS.out HC.out sd (by rw [← hnd]; omega) HMD.out)
            obtain ⟨c1_, hc1⟩ : ∃ z, z = costT sp := ⟨_, rfl⟩
            obtain ⟨c2_, hc2⟩ : ∃ z, z = costT sd := ⟨_, rfl⟩
            obtain ⟨c3_, hc3⟩ : ∃ z, z = costT out := ⟨_, rfl⟩
            have hcs : c3_ = c1_ + c2_ := by rw [hc1, hc2, hc3, hsp.out, hsd.out]; exact (cost_parts out k).symm
            have hcb : c1_ ≤ 1000 ∧ c2_ ≤ 1000 := by
              have h1 := costT_len sp; have h2 := costT_len sd
              omega
            have hcw : IntKind.i64.wrap ((c1_ : Int) + (c2_ : Int)) = (c3_ : Int) := by rw [IntWalk.i64_in _ (by omega)]; omega
            have CP := Lib.hid (show ∀ wx v, Rd AcK wx v sp → Calls Tryd.prog 16 #[v] wx fun e w' => e = .returned (.int .i64 (c1_ : Int)) ∧ Kp No wx w' from fun wx v hv => by rw [hc1]; exact tpCost_any hv (by rw [← hnp]; omega))
            have CD := Lib.hid (show ∀ wx v, Rd AcK wx v sd → Calls Tryd.prog 16 #[v] wx fun e w' => e = .returned (.int .i64 (c2_ : Int)) ∧ Kp No wx w' from fun wx v hv => by rw [hc2]; exact tpCost_any hv (by rw [← hnd]; omega))
            have CO := Lib.hid (show ∀ wx v, Rd AcK wx v out → Calls Tryd.prog 16 #[v] wx fun e w' => e = .returned (.int .i64 (c3_ : Int)) ∧ Kp No wx w' from fun wx v hv => by rw [hc3]; exact tpCost_any hv (by rw [← HN.out]; omega))
            have HZD := Lib.hid (show ∀ y, y ∈ zonesR F sd → y ∈ M from fun y hy => HA.out y (by rw [HZ.out]; rw [hsd.out] at hy; exact zones_drop hy))
            have hzdl : (zonesR F sd).length ≤ 1000 := by have := zonesR_len F sd; omega
            have HZL := Lib.hid hzdl
            have HRD := Lib.hid hRd.out; have HRP := Lib.hid hRp.out
            obtain ⟨q0, q1, q2, q3, q4, q5, q6, q7⟩ := LB.out w9.drew (K5.out.no K9.out.drew)
            clear hlt hsd hdl hsp hpl hRd hRp hnd hnp hc1 hc2 hc3 hcs hzdl
            go_upto_region 21 with fail
            go_region_held3 (fun w' => w'.cell? ⟨w.heap.size, 0, none⟩ = some (.int .i64 X) ∧ w'.cell? ⟨w.heap.size, 1, none⟩ = some (.int .i64 Y) ∧ w'.cell? ⟨w.heap.size, 2, none⟩ = some (.string s))
              (first | exact ⟨by assumption, by assumption, by assumption⟩ | exact ⟨q0, q1, q2⟩)
              (first
                | (go_at_call 17; refine (ZD.out _ _ (HRD.out.drewN 1)).mono ?_; rintro e w10 ⟨v10, rfl, r10, k10⟩; obtain ⟨A10, q10, rfl⟩ := r10.shape; have R10 := Lib.hid r10; have K10 := Lib.hid ((Kp.refl No w9).drew.no k10); obtain ⟨t0, t1, t2, t3, t4, t5, t6, t7⟩ := LB.out w10 (K5.out.no (K9.out.no K10.out)); clear r10 k10))
            have KA := Lib.hid (K9.out.no K10.out)
            have ST10 := Lib.hid (ST9.out.kp K10.out (no_no _))
            have RD := Lib.hid (fun wx (hk : Kp No w9 wx) => HRD.out.kpNo hk)
            have RP := Lib.hid (fun wx (hk : Kp No w9 wx) => HRP.out.kpNo hk)
            have RO := Lib.hid (fun wx (hk : Kp No w9 wx) => O9.out.kpNo hk)
            obtain ⟨Zd, hZd⟩ : ∃ z, z = zonesR F sd := ⟨_, rfl⟩
            rw [← hZd] at R10 HZD HZL ⊢
            obtain ⟨nv, hnv⟩ : ∃ z, z = Zd.length := ⟨_, rfl⟩
            rw [← hnv] at R10 HZL ⊢
            have HNV := Lib.hid hnv
            have hnv2 := HZL.out
            clear hZd hnv q0 q1 q2 q3 q4 q5 q6 q7 t0 t1 t2 t3 t4 t5 t6 t7
            go_wp2_with fail
            go_loopg [99] (nv + 1) (fun g_ iv wx => ∃ (i : Nat), g_ = nv + 1 - i ∧ iv = .int .i64 (i : Int) ∧ i ≤ nv ∧ Kp No w10 wx)
            case atStart => exact ⟨0, rfl, rfl, by omega, (Kp.refl _ _).drewN 0⟩
            case round =>
              obtain ⟨i, hg, rfl, hi, kp⟩ := hrel
              have KP3 := Lib.hid kp
              clear kp
              by_cases hlt : i < nv
              · have hltI : (i : Int) < (nv : Int) := by omega
                have hwi : IntKind.i64.wrap ((i : Int) + 1) = (i : Int) + 1 := IntWalk.i64_in _ (by omega)
                obtain ⟨z, hz⟩ : ∃ z, Zd[i]? = some z := ⟨_, List.getElem?_eq_getElem (by rw [← HNV.out]; exact hlt)⟩
                have RZ3 := Lib.hid (R10.out.kpNo KP3.out)
                rcases RZ3.out with ⟨_, he⟩ | ⟨g, o, cap', hv, _⟩
                · have := HNV.out; rw [he, List.length_nil] at this; omega
                simp only [Value.slice.injEq] at hv
                obtain ⟨rfl, hzz, rfl⟩ := hv
                have hcz := RZ3.out.intAt hz
                have hlook : (Instr.lookup 45 (.map (some w5.heap.size)) (.int .i64 z) false).run Tryd.prog wr = .ok (.bool true) wr := by
                  have h := SetI.look mapB (ST10.out.kp KP3.out (no_no _)) z
                  rwa [decide_eq_true (HZD.out z (List.mem_of_getElem? hz))] at h
                clear hz hzz hlt
                go_wp2_with fail
                go_roundg (nv + 1 - (i + 1))
                case measure => omega
                case rel => exact ⟨i + 1, rfl, by go_num, by omega, KP3.out⟩
              · obtain rfl : nv = i := by omega
                have hd0 : ¬ (nv : Int) < (nv : Int) := by omega
                have KF := Lib.hid (K10.out.no KP3.out)
                have LB2 := Lib.hid (fun wx (hk : Kp No w9 wx) => LB.out wx (K5.out.no (K9.out.no hk)))
                obtain ⟨q0, q1, q2, q3, _, _, _, _⟩ := LB2.out wr.drew KF.out.drew
                clear hlt
                go_wp2_with fail
                go_region_held3 (fun w' => w'.cell? ⟨w.heap.size, 0, none⟩ = some (.int .i64 X) ∧ w'.cell? ⟨w.heap.size, 1, none⟩ = some (.int .i64 Y) ∧ w'.cell? ⟨w.heap.size, 2, none⟩ = some (.string s) ∧ w'.cell? ⟨w.heap.size, 3, none⟩ = some (.int .i64 rb))
                  (first | exact ⟨by assumption, by assumption, by assumption, by assumption⟩ | exact ⟨q0, q1, q2, q3⟩)
                  (first
                    | (go_at_call 14; refine (RR.out _ _ (RD.out _ KF.out.drew)).mono ?_; rintro e w11 ⟨rfl, k11⟩; have K11 := Lib.hid (KF.out.drew.no k11); obtain ⟨t0, t1, t2, t3, _, _, _, _⟩ := LB2.out w11 K11.out; clear k11)
                    | (go_at_call 16; refine (CO.out _ _ (RO.out _ K13.out)).mono ?_; rintro e w14 ⟨rfl, k14⟩; have K14 := Lib.hid (K13.out.no k14); obtain ⟨z0, z1, z2, z3, _, _, _, _⟩ := LB2.out w14 K14.out; clear k14)
                    | (go_at_call 16; refine (CD.out _ _ (RD.out _ K12.out)).mono ?_; rintro e w13 ⟨rfl, k13⟩; have K13 := Lib.hid (K12.out.no k13); obtain ⟨y0, y1, y2, y3, _, _, _, _⟩ := LB2.out w13 K13.out; clear k13)
                    | (go_at_call 16; refine (CP.out _ _ (RP.out _ K11.out)).mono ?_; rintro e w12 ⟨rfl, k12⟩; have K12 := Lib.hid (K11.out.no k12); obtain ⟨x0, x1, x2, x3, _, _, _, _⟩ := LB2.out w12 K12.out; clear k12))
                go_wp2_with fail
                go_ret
                exact ⟨by simp, KB.out.no (K5.out.no (K9.out.no (K14.out.no ((Kp.refl No _).drewN 0))))⟩
theorem wf_u8 {n : Int} (h : (Lit.int .u8 n).wf = true) : ∃ u : Nat, n = (u : Int) ∧ u ≤ 255 := by
  unfold Lit.wf at h
  simp only [Bool.and_eq_true, decide_eq_true_eq] at h
  have h1 : IntKind.u8.max = 255 := by decide
  have h2 : IntKind.u8.min = 0 := by decide
  exact ⟨n.toNat, by omega, by omega⟩
theorem left_rowI (x : Cb) {w : World} (hx : x.Ok w) {n : Int} (hn : (Lit.int .u8 n).wf = true) : Calls Tryd.prog 6 #[x.val, .int .u8 n] w fun e w' => e = .returned (.bool true) ∧ Kp No w w' := by
  obtain ⟨u, rfl, hu⟩ := wf_u8 hn
  exact left_row x hx u hu
end Go.Proofs.YtmipnicdlldjnaaDoor
