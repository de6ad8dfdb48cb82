/- PathBack, PathSteps, PathShort, plain: walks between lanes, and their lengths. No function of the program; PathSteps, plain. No function of the program; Ways through time, plain: the way told from its end; what a way is. No function of the program; sipp: the stays in memory; sipp: the search in memory, while it is made; sipp.of; sipp.first; sipp.beyond; sipp: known, can; slices.IndexFunc, ContainsFunc at stays; sipp: known, can, soon. No condition. -/
import Derived.Test.YtgdokpfepfmbmaaDoorM7
import Derived.Test.YtgdokpfepfmbmaaDoorM3
import Derived.Deep.RegionLaw
import Derived.Deep.CutBlock
import Derived.Deep.DeepCutAuto
import Derived.Deep.Cut
import Derived.Deep.CutRange

namespace Go.Proofs.YtgdokpfepfmbmaaDoor
set_option linter.unusedVariables false
set_option linter.unusedSimpArgs false
open Go.RowKit

theorem near_beside {f : Flr} {u c : Nat} (h : c ∈ nearP f u) : c ∈ besideP f.W.toNat f.H.toNat u ∧ kdS f.s c ≠ 1 := by
  unfold nearP at h
  split at h
  · have h2 := List.mem_filter.1 h
    exact ⟨by simpa using h2.1, by simpa using h2.2⟩
  · simp at h
theorem near_of {f : Flr} (r : RightP f) {u c : Nat} (hu : u < f.s.size) (hk : kdS f.s u = 2 ∨ kdS f.s u = 3) (h : c ∈ besideP f.W.toNat f.H.toNat u) (hc : kdS f.s c ≠ 1) : c ∈ nearP f u := by
  unfold nearP isB
  rw [rightB_iff.2 r]
  have e : ((u : Int)).toNat = u := by omega
  rw [e, if_pos (by rcases hk with e | e <;> simp [e, hu])]
  exact List.mem_filter.2 ⟨h, by simpa using hc⟩
theorem RightP.wh {f : Flr} (r : RightP f) : 1 ≤ f.W.toNat ∧ f.s.size = f.W.toNat * f.H.toNat := by
  have h1 := r.w1; have h2 := r.h1; have h3 := r.len
  refine ⟨by omega, ?_⟩
  have : (f.s.size : Int) = ((f.W.toNat * f.H.toNat : Nat) : Int) := by
    rw [h3, Int.natCast_mul, Int.toNat_of_nonneg (by omega), Int.toNat_of_nonneg (by omega)]
  exact Int.ofNat.inj this
theorem lane_ne1 {s : ByteArray} {i : Nat} (h : laneI s i) : kdS s i ≠ 1 := by rw [h.2]; decide
theorem near_symm {f : Flr} (r : RightP f) {u c : Nat} (hu : laneI f.s u) (hc : laneI f.s c) (h : c ∈ nearP f u) : u ∈ nearP f c := by
  obtain ⟨h1, h2⟩ := r.wh
  exact near_of r hc.1 (.inl hc.2) (beside_symm h1 (by rw [← h2]; exact hu.1) (near_beside h).1) (lane_ne1 hu)
/-- The steps between lanes. -/
noncomputable def stL (f : Flr) (u : Nat) : List Nat := if kdS f.s u = 2 then nearP f u else []
theorem stL_eq {f : Flr} {a : Nat} (h : laneI f.s a) : stepsP f a [] = stL f := by
  funext u
  unfold stepsP stL
  by_cases hu : kdS f.s u = 2
  · rw [if_neg (by simp [hu]), if_pos hu]; simp
  · rw [if_pos ⟨fun e => hu (by rw [e]; exact h.2), hu⟩, if_neg hu]
theorem stL_mem {f : Flr} {u c : Nat} (h : c ∈ stL f u) : kdS f.s u = 2 ∧ c ∈ nearP f u := by
  unfold stL at h
  split at h
  · rename_i hx; exact ⟨hx, h⟩
  · simp at h
theorem stL_lt {f : Flr} (r : RightP f) (u c : Nat) (hu : u < f.s.size) (h : c ∈ stL f u) : c < f.s.size := near_sz r hu (stL_mem h).2
theorem wkL_lt {f : Flr} (r : RightP f) {a k c : Nat} (ha : a < f.s.size) (h : Wk (stL f) a k c) : c < f.s.size := by
  induction h with
  | nil => exact ha
  | step _ hc ih => exact stL_lt r _ _ ih hc
theorem wkL_symm {f : Flr} (r : RightP f) {a k c : Nat} (ha : laneI f.s a) (h : Wk (stL f) a k c) : laneI f.s c → Wk (stL f) c k a := by
  induction h with
  | nil => intro _; exact .nil
  | step hw hc ih =>
    rename_i u c
    intro hl
    have h1 := stL_mem hc
    have hu : laneI f.s u := ⟨wkL_lt r ha.1 hw, h1.1⟩
    refine .front ?_ (ih hu)
    unfold stL
    rw [if_pos hl.2]
    exact near_symm r hu hl h1.2
theorem conn_wk {f : Flr} (r : RightP f) {a c : Nat} (ha : laneI f.s a) (h : Conn f.W.toNat f.H.toNat f.s a c) : ∃ k, Wk (stL f) a k c := by
  induction h with
  | refl => exact ⟨0, .nil⟩
  | step h0 h1 h2 ih =>
    obtain ⟨k, hk⟩ := ih
    have hj := h0.lane ha
    refine ⟨k + 1, .step hk ?_⟩
    unfold stL
    rw [if_pos hj.2]
    exact near_of r hj.1 (.inl hj.2) h1 (lane_ne1 h2)
theorem dst_small {st : Nat → List Nat} {s n c : Nat} (hs : s < n) (hst : ∀ u c, u < n → c ∈ st u → c < n) : dst st s c < n := by
  rcases dst_isD st s c with ⟨e, _⟩ | ⟨k, e, hw, hl⟩
  · omega
  · have := short_lt hs hst hw hl; omega
theorem dst_le {st : Nat → List Nat} {s k c : Nat} (hw : Wk st s k c) : 0 ≤ dst st s c ∧ dst st s c ≤ (k : Int) := by
  rcases dst_isD st s c with ⟨_, h⟩ | ⟨j, e, _, hl⟩
  · exact absurd hw (h k)
  · have := hl k hw; omega
theorem dst_wk {st : Nat → List Nat} {s c : Nat} (h : 0 ≤ dst st s c) : ∃ k : Nat, dst st s c = k ∧ Wk st s k c := by
  rcases dst_isD st s c with ⟨e, _⟩ | ⟨j, e, hw, _⟩
  · omega
  · exact ⟨j, e, hw⟩
theorem zone_lane {f : Flr} {c : Int} (h : (zoneP f c).isSome = true) : RightP f ∧ ∃ C : Nat, c = C ∧ laneI f.s C := by
  unfold zoneP at h
  split at h
  · rename_i hb
    unfold isB at hb
    simp only [Bool.and_eq_true, decide_eq_true_eq, beq_iff_eq] at hb
    obtain ⟨⟨⟨h1, h2⟩, h3⟩, h4⟩ := hb
    exact ⟨rightB_iff.1 h4, c.toNat, by omega, by omega, by omega⟩
  · simp at h
structure BkL (f : Flr) (X Y : List Int) (a b c : Nat) : Prop where
  lx : X.length = f.s.size
  ly : Y.length = f.s.size
  at_ : a < f.s.size ∧ b < f.s.size ∧ c < f.s.size
  vals : ∃ d u v : Int, X[b]? = some d ∧ Y[a]? = some d ∧ X[c]? = some u ∧ Y[c]? = some v ∧ 0 ≤ d ∧ u ≤ d + v ∧ 0 ≤ v ∧ d < f.s.size ∧ v < f.s.size
theorem ptOk_lane {f : Flr} (r : RightP f) {a : Nat} (h : laneI f.s a) : ptOk f a = true := by
  unfold ptOk
  rw [rightB_iff.2 r]
  have := h.1
  have h35 : bt f.s a ≠ 35 := fun e => by have h2 := h.2; unfold kdS at h2; rw [e] at h2; exact absurd h2 (by decide)
  simp [h35]; exact this
theorem distP_lane {f : Flr} (r : RightP f) {a : Nat} (h : laneI f.s a) : distP f a [] = distL (stL f) a f.s.size := by
  unfold distP
  rw [if_pos (ptOk_lane r h)]
  have e : ((a : Int)).toNat = a := by omega
  rw [e, stL_eq h]
theorem back_law {f : Flr} (r : RightP f) {a b c : Nat} (ha : laneI f.s a) (hb : laneI f.s b) (hc : laneI f.s c) : BkL f (distP f a []) (distP f b []) a b c := by
  rw [distP_lane r ha, distP_lane r hb]
  obtain ⟨j, hj⟩ := conn_wk r ha (r.join.2 a b ha hb)
  obtain ⟨k, hk⟩ := conn_wk r hb (r.join.2 b c hb hc)
  obtain ⟨d, e1, w1⟩ := dst_wk (dst_le hj).1
  obtain ⟨v, e2, w2⟩ := dst_wk (dst_le hk).1
  have h1 := dst_le (w1.trans w2)
  have h2 := dst_le (wkL_symm r ha w1 hb)
  obtain ⟨g, e3, w3⟩ := dst_wk h2.1
  have h3 := dst_le (wkL_symm r hb w3 ha)
  have s1 := dst_small (c := b) ha.1 (stL_lt r)
  have s2 := dst_small (c := c) hb.1 (stL_lt r)
  refine ⟨distL_len _ _ _, distL_len _ _ _, ⟨ha.1, hb.1, hc.1⟩, dst (stL f) a b, dst (stL f) a c, dst (stL f) b c, distL_get hb.1, ?_, distL_get hc.1, distL_get hc.1, by omega, by omega, by omega, s1, s2⟩
  rw [distL_get ha.1]
  congr 1
  omega
end Go.Proofs.YtgdokpfepfmbmaaDoor

namespace Go.Proofs.YtgdokpfepfmbmaaDoor
set_option linter.unusedVariables false
set_option linter.unusedSimpArgs false
open Go.RowKit

structure StpL (f : Flr) (fr : Int) (B D : List Int) : Prop where
  len : D.length ≤ f.s.size
  sz : ∀ (k c : Nat) x, D[k]? = some x → c ∈ nearP f k → c < D.length
  up : ∀ (k c : Nat) x y, D[k]? = some x → c ∈ nearP f k → D[c]? = some y → 0 ≤ x → ((zoneP f k).isSome = true ∨ (k : Int) = fr) → ¬ (c : Int) ∈ B → 0 ≤ y ∧ y ≤ x + 1
  down : ∀ (k : Nat) x, D[k]? = some x → 0 < x → ∃ c ∈ nearP f k, D[c]? = some (x - 1)
  z : ∀ (k : Nat) x, D[k]? = some x → (x = 0 ↔ (k : Int) = fr)
  rng : ∀ (k : Nat) x, D[k]? = some x → -1 ≤ x ∧ x < D.length
theorem near_flip {f : Flr} (r : RightP f) {u c : Nat} (hu : u < f.s.size) (hk : kdS f.s u ≠ 1) (h : c ∈ nearP f u) : u ∈ nearP f c := by
  obtain ⟨h1, h2⟩ := r.wh
  have hb := near_beside h
  have hc := near_sz r hu h
  refine near_of r hc ?_ (beside_symm h1 (by rw [← h2]; exact hu) hb.1) hk
  have h0 := r.kinds c hc
  have : kdS f.s c = 0 ∨ kdS f.s c = 1 ∨ kdS f.s c = 2 ∨ kdS f.s c = 3 := by
    unfold kdS kindB
    repeat' split
    all_goals simp
  rcases this with e | e | e | e
  · exact absurd e h0
  · exact absurd e hb.2
  · exact .inl e
  · exact .inr e
theorem wkP_lt {f : Flr} (r : RightP f) {fr : Nat} {B : List Int} {k c : Nat} (ha : fr < f.s.size) (h : Wk (stepsP f fr B) fr k c) : c < f.s.size := by
  induction h with
  | nil => exact ha
  | step _ hc ih => exact steps_sz r ih hc
theorem steps_near {f : Flr} {fr : Nat} {B : List Int} {u c : Nat} (h : c ∈ stepsP f fr B u) : c ∈ nearP f u ∧ ¬ (c : Int) ∈ B := by
  unfold stepsP at h
  split at h
  · simp at h
  · have := List.mem_filter.1 h
    exact ⟨this.1, by simpa using this.2⟩
theorem ptOk_ne1 {f : Flr} {fr : Nat} (h : ptOk f fr = true) : kdS f.s fr ≠ 1 := by
  unfold ptOk at h
  simp only [Bool.and_eq_true, decide_eq_true_eq, bne_iff_ne, Int.toNat_natCast] at h
  exact fun e => h.2 (kd_wall e)
theorem steps_law (f : Flr) (fr : Int) (B : List Int) : StpL f fr B (distP f fr B) := by
  cases hok : ptOk f fr with
  | false =>
    have e : distP f fr B = [] := by unfold distP; rw [hok]; simp
    rw [e]
    exact ⟨by simp, fun k c x h => by simp at h, fun k c x y h => by simp at h, fun k x h => by simp at h, fun k x h => by simp at h, fun k x h => by simp at h⟩
  | true =>
    obtain ⟨s, rfl, hs, r⟩ := ptOk_nat hok
    have e : distP f (s : Int) B = distL (stepsP f s B) s f.s.size := by unfold distP; rw [hok]; simp
    rw [e]
    have get : ∀ (k : Nat) x, (distL (stepsP f s B) s f.s.size)[k]? = some x → k < f.s.size ∧ x = dst (stepsP f s B) s k := fun k x h => by
      have hl := (List.getElem?_eq_some_iff.1 h).1
      rw [distL_len] at hl
      rw [distL_get hl] at h
      exact ⟨hl, (Option.some.inj h).symm⟩
    refine ⟨by rw [distL_len]; exact Nat.le_refl _, fun k c x h hc => ?_, fun k c x y h hc hy h0 hz hB => ?_, fun k x h h0 => ?_, fun k x h => ?_, fun k x h => ?_⟩
    · rw [distL_len]; exact near_sz r (get k x h).1 hc
    · obtain ⟨hk, rfl⟩ := get k x h
      obtain ⟨hcl, rfl⟩ := get c y hy
      obtain ⟨j, e1, w1⟩ := dst_wk h0
      have hst : c ∈ stepsP f s B k := by
        unfold stepsP
        rw [if_neg]
        · exact List.mem_filter.2 ⟨hc, by simpa using hB⟩
        · rintro ⟨a, b⟩
          rcases hz with hz | hz
          · obtain ⟨_, C, hC, hl⟩ := zone_lane hz
            obtain rfl : k = C := by omega
            exact b hl.2
          · omega
      have := dst_le (Wk.step w1 hst)
      omega
    · obtain ⟨hk, rfl⟩ := get k x h
      obtain ⟨j, e1, w1⟩ := dst_wk (st := stepsP f s B) (s := s) (c := k) (by omega)
      cases w1 with
      | nil => omega
      | step hw hc =>
        rename_i j u
        have hu := wkP_lt r hs hw
        have hn := steps_near hc
        have hu1 : kdS f.s u ≠ 1 := by
          rcases steps_of hc with rfl | h2
          · exact ptOk_ne1 hok
          · rw [h2]; decide
        refine ⟨u, near_flip r hu hu1 hn.1, ?_⟩
        rw [distL_get hu]
        congr 1
        have h1 := dst_le hw
        obtain ⟨i, e2, w2⟩ := dst_wk h1.1
        have h3 := dst_le (Wk.step w2 hc)
        omega
    · obtain ⟨hk, rfl⟩ := get k x h
      constructor
      · intro e0
        obtain ⟨j, e1, w1⟩ := dst_wk (st := stepsP f s B) (s := s) (c := k) (by omega)
        obtain rfl : j = 0 := by omega
        cases w1; rfl
      · intro e0
        obtain rfl : k = s := by omega
        exact dst_self _ _
    · obtain ⟨hk, rfl⟩ := get k x h
      rw [distL_len]
      refine ⟨?_, dst_small hs fun u c hu hc => steps_sz r hu hc⟩
      rcases dst_isD (stepsP f s B) s k with ⟨e, _⟩ | ⟨j, e, _⟩ <;> omega
end Go.Proofs.YtgdokpfepfmbmaaDoor

namespace Go.Proofs.YtgdokpfepfmbmaaDoor
set_option linter.unusedVariables false
set_option linter.unusedSimpArgs false
open Go.RowKit

open Classical in
/-- From where the robot came to a cell, k + 1 moments behind the start. -/
noncomputable def cmP (T : Int → List (Int × Int)) (st near : Nat → List Nat) (fr : Nat) (s0 : Int) (ok : Nat → Bool) (k a : Nat) : Option Nat := (near a).find? fun c => ok c && decide (Rch T st fr s0 k c)
/-- The steps that bring the robot to a cell, k moments behind the start. -/
noncomputable def plP (T : Int → List (Int × Int)) (st near : Nat → List Nat) (fr : Nat) (s0 : Int) (ok : Nat → Bool) : Nat → Nat → List (Int × Int)
  | 0, _ => []
  | k + 1, a => if a = fr ∧ s0 + ((k + 1 : Nat) : Int) < to0 T fr s0 then [] else match cmP T st near fr s0 ok k a with | some c => plP T st near fr s0 ok k c ++ [((a : Int), s0 + ((k + 1 : Nat) : Int))] | none => plP T st near fr s0 ok k a
section
variable {T : Int → List (Int × Int)} {st near : Nat → List Nat} {fr : Nat} {s0 : Int} {ok : Nat → Bool}
theorem plP_stop {k : Nat} (h : s0 + (k : Int) < to0 T fr s0) : plP T st near fr s0 ok k fr = [] := by
  cases k with
  | zero => rfl
  | succ k => unfold plP; rw [if_pos ⟨rfl, h⟩]
theorem plP_some {k a c : Nat} (h : ¬ (a = fr ∧ s0 + ((k + 1 : Nat) : Int) < to0 T fr s0)) (hc : cmP T st near fr s0 ok k a = some c) : plP T st near fr s0 ok (k + 1) a = plP T st near fr s0 ok k c ++ [((a : Int), s0 + ((k + 1 : Nat) : Int))] := by
  rw [plP, if_neg h, hc]
theorem plP_none {k a : Nat} (h : ¬ (a = fr ∧ s0 + ((k + 1 : Nat) : Int) < to0 T fr s0)) (hc : cmP T st near fr s0 ok k a = none) : plP T st near fr s0 ok (k + 1) a = plP T st near fr s0 ok k a := by
  rw [plP, if_neg h, hc]
theorem cmP_some {k a c : Nat} (h : cmP T st near fr s0 ok k a = some c) : c ∈ near a ∧ ok c = true ∧ Rch T st fr s0 k c := by
  unfold cmP at h
  have h1 := List.find?_some h
  have h2 := List.mem_of_find?_eq_some h
  simp at h1
  exact ⟨h2, h1.1, h1.2⟩
theorem cmP_none {k a : Nat} (h : cmP T st near fr s0 ok k a = none) : ∀ c ∈ near a, ok c = true → ¬ Rch T st fr s0 k c := by
  unfold cmP at h
  rw [List.find?_eq_none] at h
  intro c hc ho hr
  have := h c hc
  simp [ho, hr] at this
open Classical in
theorem cmP_at {k a j c : Nat} (hc : (near a)[j]? = some c) (hp : ok c = true ∧ Rch T st fr s0 k c) (hb : ∀ i l, i < j → (near a)[i]? = some l → ¬ (ok l = true ∧ Rch T st fr s0 k l)) : cmP T st near fr s0 ok k a = some c := by
  unfold cmP
  rw [List.find?_eq_some_iff_getElem]
  have hl := (List.getElem?_eq_some_iff.1 hc).1
  refine ⟨by simp [hp.1, hp.2], j, hl, (List.getElem?_eq_some_iff.1 hc).2, fun i hi => ?_⟩
  have := hb i _ hi (List.getElem?_eq_getElem (by omega))
  cases ho : ok (near a)[i] with
  | false => simp
  | true => simp; exact fun hr => this ⟨ho, hr⟩
open Classical in
theorem cmP_no {k a : Nat} (hb : ∀ l ∈ near a, ¬ (ok l = true ∧ Rch T st fr s0 k l)) : cmP T st near fr s0 ok k a = none := by
  unfold cmP
  rw [List.find?_eq_none]
  intro c hc
  have := hb c hc
  simpa using this
/-- near is st, seen from the other end. -/
def Flp (T : Int → List (Int × Int)) (st near : Nat → List Nat) (fr : Nat) (s0 : Int) (ok : Nat → Bool) : Prop := ∀ (k u a : Nat), Rch T st fr s0 k u → (a ∈ st u ↔ u ∈ near a ∧ ok u = true)
/-- Where the robot was ahead, if it did not come out of another cell. -/
theorem rch_stay (hf : Flp T st near fr s0 ok) {k a : Nat} (h : Rch T st fr s0 (k + 1) a) (hc : cmP T st near fr s0 ok k a = none) : Rch T st fr s0 k a := by
  obtain ⟨_, h | ⟨u, hu, hau⟩⟩ := h
  · exact h
  · have := (hf k u a hu).1 hau
    exact absurd hu (cmP_none hc u this.1 this.2)
/-! ### What a way through time is -/
open Classical in
/-- Is a cell free at all moments between two? -/
noncomputable def frB (T : Int → List (Int × Int)) (a : Nat) (x y : Int) : Bool := decide (∀ m, x < m → m < y → isF (T a) m = true)
open Classical in
theorem frB_iff {a : Nat} {x y : Int} : frB T a x y = true ↔ ∀ m, x < m → m < y → isF (T a) m = true := by unfold frB; exact decide_eq_true_iff
noncomputable def wyB (T : Int → List (Int × Int)) (st : Nat → List Nat) : Nat → Int → List (Int × Int) → Bool
  | _, _, [] => true
  | a, now, x :: l => decide (now < x.2) && decide (x.2 < 1048576) && decide (x.1 ∈ ints (st a)) && frB T a now x.2 && isF (T x.1) x.2 && wyB T st x.1.toNat x.2 l
theorem isF_range {l : List (Int × Int)} {m : Int} (h : isF l m = true) : 0 ≤ m ∧ m < 1048576 := by
  unfold isF at h
  simp only [Bool.and_eq_true, decide_eq_true_eq] at h
  exact h.1
/-- Where a way ends: the last cell, and when the robot came there. -/
def endW (a : Nat) (now : Int) (l : List (Int × Int)) : Nat × Int := match l.getLast? with | some x => (x.1.toNat, x.2) | none => (a, now)
theorem endW_snoc (a : Nat) (now : Int) (l : List (Int × Int)) (x : Int × Int) : endW a now (l ++ [x]) = (x.1.toNat, x.2) := by simp [endW]
theorem endW_cons (a : Nat) (now : Int) (l : List (Int × Int)) (x : Int × Int) : endW a now (x :: l) = endW x.1.toNat x.2 l := by
  unfold endW
  cases l with
  | nil => rfl
  | cons y l => rw [List.getLast?_cons_cons]; cases h : (y :: l).getLast? with
    | none => simp at h
    | some z => rfl
theorem wyB_snoc : ∀ (l : List (Int × Int)) (a : Nat) (now : Int) (x : Int × Int), wyB T st a now (l ++ [x]) = (wyB T st a now l && (decide ((endW a now l).2 < x.2) && decide (x.2 < 1048576) && decide (x.1 ∈ ints (st (endW a now l).1)) && frB T (endW a now l).1 (endW a now l).2 x.2 && isF (T x.1) x.2)) := by
  intro l
  induction l with
  | nil =>
    intro a now x
    show (_ && true) = (true && _)
    rw [Bool.and_true, Bool.true_and]
    rfl
  | cons y l ih =>
    intro a now x
    rw [List.cons_append, wyB, ih, wyB, endW_cons]
    simp only [Bool.and_assoc]
/-- The way that was told is one; the robot is where it ends up to then. -/
theorem plP_way (hT : WFT T) (hf : Flp T st near fr s0 ok) : ∀ (k a : Nat), Rch T st fr s0 k a → wyB T st fr s0 (plP T st near fr s0 ok k a) = true ∧ (endW fr s0 (plP T st near fr s0 ok k a)).1 = a ∧ (endW fr s0 (plP T st near fr s0 ok k a)).2 ≤ s0 + k ∧ (∀ m, (endW fr s0 (plP T st near fr s0 ok k a)).2 < m → m ≤ s0 + k → isF (T a) m = true) := by
  intro k
  induction k with
  | zero =>
    intro a h
    have h : a = fr := h
    subst h
    exact ⟨rfl, rfl, by show s0 ≤ _; omega, fun m h1 h2 => by have h1 : s0 < m := h1; omega⟩
  | succ k ih =>
    intro a h
    by_cases hs : a = fr ∧ s0 + ((k + 1 : Nat) : Int) < to0 T fr s0
    · obtain ⟨rfl, hs⟩ := hs
      rw [plP_stop hs]
      exact ⟨rfl, rfl, by show s0 ≤ _; omega, fun m (h1 : s0 < m) (h2 : m ≤ s0 + ((k + 1 : Nat) : Int)) => (to0_spec (T := T) (fr := a) (s0 := s0) hT).2.1 m (by omega) (by omega)⟩
    · cases hc : cmP T st near fr s0 ok k a with
      | some c =>
        rw [plP_some hs hc]
        obtain ⟨h1, h2, h3⟩ := cmP_some hc
        obtain ⟨i1, i2, i3, i4⟩ := ih c h3
        rw [wyB_snoc, endW_snoc, i1]
        have hr := isF_range h.1
        refine ⟨?_, by simp, Int.le_refl _, fun m h4 h5 => by simp only at h4; omega⟩
        have hfr : frB T (endW fr s0 (plP T st near fr s0 ok k c)).1 (endW fr s0 (plP T st near fr s0 ok k c)).2 (s0 + ((k + 1 : Nat) : Int)) = true := by
          rw [frB_iff, i2]
          exact fun m h4 h5 => i4 m h4 (by omega)
        simp only
        rw [hfr, h.1, i2]
        have hin : (a : Int) ∈ ints (st c) := ints_mem.2 ((hf k c a h3).2 ⟨h1, h2⟩)
        simp only [hin, decide_true, Bool.and_true, Bool.true_and, Bool.and_eq_true, decide_eq_true_eq]
        exact ⟨by omega, by omega⟩
      | none =>
        rw [plP_none hs hc]
        obtain ⟨i1, i2, i3, i4⟩ := ih a (rch_stay hf h hc)
        refine ⟨i1, i2, by omega, fun m h4 h5 => ?_⟩
        by_cases e : m = s0 + ((k + 1 : Nat) : Int)
        · rw [e]; exact h.1
        · exact i4 m h4 (by omega)
end
end Go.Proofs.YtgdokpfepfmbmaaDoor

namespace Go.Proofs.YtgdokpfepfmbmaaDoor
set_option linter.unusedVariables false
set_option linter.unusedSimpArgs false
open Go.RowKit

/-- A stay's cells. -/
def SyK : Kd Sty := { sz := 3, enc := fun x => [.int .i64 (x.c : Int), .int .i64 x.a, .int .i64 x.b], len := fun _ => rfl, one := by intro a v hv; simp at hv; rcases hv with rfl | rfl | rfl <;> rfl, pos := by decide }
def Sty.val (x : Sty) : Value := .agg #[.int .i64 (x.c : Int), .int .i64 x.a, .int .i64 x.b]
theorem elSy : ElT Tryd.prog 123 100 SyK 24 := ElT.of (z := .agg #[.int .i64 0, .int .i64 0, .int .i64 0]) (by kernel_rfl) (by kernel_rfl) rfl
theorem Rd.styAt {w : World} {l : List Sty} {g o n cap : Nat} (h : Rd SyK w (.slice (some ⟨g, o, none⟩) n cap) l) {i : Nat} {x : Sty} (hx : l[i]? = some x) :
    w.cell? ⟨g, o + i * 3, none⟩ = some (.int .i64 (x.c : Int)) ∧ w.cell? ⟨g, o + i * 3 + 1, none⟩ = some (.int .i64 x.a) ∧ w.cell? ⟨g, o + i * 3 + 2, none⟩ = some (.int .i64 x.b) :=
  ⟨h.at rfl hx (j := 0) rfl, h.at rfl hx (j := 1) rfl, h.at rfl hx (j := 2) rfl⟩
def setU (U : Int → List Sty) (c : Int) (l : List Sty) : Int → List Sty := fun c' => if c' = c then l else U c'
theorem mapS : MapT Tryd.prog 87 3 123 (.slice none 0 0) := ⟨by kernel_rfl, by kernel_rfl, fun w => by kernel_rfl⟩
/-- The map bm of the stays: each cell's list in memory of its own. -/
def RepS (w : World) (bm : Nat) (T : Int → List Sty) (F : Nat → Prop) : Prop :=
  ∃ es, MapI w bm es ∧ (∀ x ∈ es, Own SyK 100 w x.2 (T x.1)) ∧ (∀ c, c ∉ es.map (·.1) → T c = []) ∧
    (∀ x ∈ es, ∀ y ∈ es, ∀ g, x.2.ownBlock = some g → y.2.ownBlock = some g → x = y) ∧ ∀ b, F b ↔ b = bm ∨ ∃ x ∈ es, x.2.ownBlock = some b
theorem RepS.lt {w : World} {bm : Nat} {T : Int → List Sty} {F : Nat → Prop} (h : RepS w bm T F) : ∀ b, F b → b < w.heap.size := by
  obtain ⟨es, h2, h3, h4, h5, h6⟩ := h
  intro b hb
  rcases (h6 b).1 hb with rfl | ⟨x, hx, hxb⟩
  · exact h2.lt
  · exact (h3 x hx).lt hxb
theorem RepS.has {w : World} {bm : Nat} {T : Int → List Sty} {F : Nat → Prop} (h : RepS w bm T F) : F bm := by
  obtain ⟨es, h2, h3, h4, h5, h6⟩ := h
  exact (h6 bm).2 (.inl rfl)
theorem RepS.made (w : World) : RepS (w.alloc (.map #[] 0)) w.heap.size (fun _ => []) (fun b => b = w.heap.size) := ⟨[], MapI.made w, by simp, fun _ _ => rfl, by simp, fun b => by simp⟩
theorem RepS.kp {w w' : World} {bm : Nat} {T : Int → List Sty} {F S : Nat → Prop} (h : RepS w bm T F) (hk : Kp S w w') (h2 : ∀ b, F b → ¬ S b) : RepS w' bm T F := by
  obtain ⟨es, a2, a3, a4, a5, a6⟩ := h
  exact ⟨es, a2.kp hk (h2 bm ((a6 bm).2 (.inl rfl))), fun x hx => (a3 x hx).kp hk fun g hg => h2 g ((a6 g).2 (.inr ⟨x, hx, hg⟩)), a4, a5, a6⟩
theorem RepS.kpNo {w w' : World} {bm : Nat} {T : Int → List Sty} {F : Nat → Prop} (h : RepS w bm T F) (hk : Kp No w w') : RepS w' bm T F := h.kp hk fun _ _ => no_no _
theorem RepS.at {w : World} {bm : Nat} {T : Int → List Sty} {F : Nat → Prop} (h : RepS w bm T F) (c : Int) :
    ∃ v, (∀ w', Kp No w w' → (Instr.lookup 87 (.map (some bm)) (.int .i64 c) false).run Tryd.prog w' = .ok v w') ∧ Own SyK 100 w v (T c) ∧ (∀ g, v.ownBlock = some g → F g ∧ g ≠ bm) ∧
      ∀ w1 v' l', Kp (fun k => v.ownBlock = some k) w w1 → Own SyK 100 w1 v' l' → (∀ g, v'.ownBlock = some g → v.ownBlock = some g ∨ w.heap.size ≤ g) →
        ∃ w2 F', (Instr.mapUpdate 87 (.map (some bm)) (.int .i64 c) v').run Tryd.prog w1 = .ok () w2 ∧ RepS w2 bm (setU T c l') F' ∧ Kp F w w2 ∧ ∀ k, F' k → F k ∨ w.heap.size ≤ k := by
  have hlt := h.lt
  obtain ⟨es, a2, a3, a4, a5, a6⟩ := h
  have hown : Own SyK 100 w (getV es c (.slice none 0 0)) (T c) := by
    rcases getV_cases es c (.slice none 0 0) with hm | ⟨hz, hn⟩
    · exact a3 _ hm
    · rw [hz, a4 c hn]; exact Own.nil _ _ _
  have hF : ∀ g, (getV es c (.slice none 0 0)).ownBlock = some g → F g := by
    intro g hg
    rcases getV_cases es c (.slice none 0 0) with hm | ⟨hz, _⟩
    · exact (a6 g).2 (.inr ⟨_, hm, hg⟩)
    · rw [hz] at hg; simp [Value.ownBlock] at hg
  have hbm0 : ¬ ((getV es c (.slice none 0 0)).ownBlock = some bm) := by
    intro hb
    obtain ⟨arr, clk, h2', _⟩ := a2
    rcases hown with ⟨hv, _⟩ | ⟨g, cap, cur, hv, hb', _⟩
    · rw [hv] at hb; simp [Value.ownBlock] at hb
    · rw [hv] at hb
      simp [Value.ownBlock] at hb
      subst hb
      rw [h2'] at hb'
      simp at hb'
  refine ⟨getV es c (.slice none 0 0), fun w' hk => MapI.look mapS (a2.kp hk (no_no _)) c, hown, fun g hg => ⟨hF g hg, fun e => ?_⟩, ?_⟩
  · subst e; exact hbm0 hg
  intro w1 v' l' hk hown' hblk
  have hbm := hbm0
  have hM1 : MapI w1 bm es := a2.kp hk hbm
  obtain ⟨w2, hr, hM2, hk2⟩ := hM1.upd mapS c v'
  have hnd : (es.map (·.1)).Nodup := let ⟨_, _, _, _, h, _⟩ := a2; h
  have hv'bm : ¬ (v'.ownBlock = some bm) := fun e => by
    rcases hblk bm e with h | h
    · exact hbm h
    · have := hlt bm ((a6 bm).2 (.inl rfl)); omega
  have hkF : Kp F w w2 := (hk.mono fun k _ hk' => hF k hk').trans' hk2 fun k hk' e => by subst e; exact (a6 k).2 (.inl rfl)
  refine ⟨w2, fun b => b = bm ∨ ∃ x ∈ updV es c v', x.2.ownBlock = some b, hr, ⟨updV es c v', hM2, ?_, ?_, ?_, fun b => Iff.rfl⟩, hkF, ?_⟩
  · intro x hx
    rcases (mem_updV hnd x).1 hx with rfl | ⟨hx', hne⟩
    · simp only [setU, if_true]
      exact hown'.kp hk2 fun g hg e => hv'bm (e ▸ hg)
    · simp only [setU, if_neg hne]
      refine (((a3 x hx').kp hk ?_)).kp hk2 ?_
      · intro g hg hg2
        rcases getV_cases es c (.slice none 0 0) with hm | ⟨hz, _⟩
        · exact hne (congrArg Prod.fst (a5 _ hx' _ hm g hg hg2))
        · rw [hz] at hg2; simp [Value.ownBlock] at hg2
      · rintro g hg rfl
        obtain ⟨arr, clk, h2', _⟩ := a2
        rcases a3 x hx' with ⟨hv, _⟩ | ⟨g', cap, cur, hv, hb', _⟩
        · rw [hv] at hg; simp [Value.ownBlock] at hg
        · rw [hv] at hg
          simp [Value.ownBlock] at hg
          subst hg
          rw [h2'] at hb'
          simp at hb'
  · intro c' hc'
    have hcc : c' ≠ c := by
      rintro rfl
      exact hc' (List.mem_map.2 ⟨(c', v'), (mem_updV hnd _).2 (.inl rfl), rfl⟩)
    simp only [setU, if_neg hcc]
    refine a4 c' fun hm => hc' ?_
    obtain ⟨x, hx, rfl⟩ := List.mem_map.1 hm
    exact List.mem_map.2 ⟨x, (mem_updV hnd _).2 (.inr ⟨hx, hcc⟩), rfl⟩
  · intro x hx y hy g hgx hgy
    have key : ∀ z, z ∈ es → z.1 ≠ c → z.2.ownBlock = some g → v'.ownBlock = some g → False := by
      intro z hz hzc hzg hvg
      rcases hblk g hvg with h | h
      · rcases getV_cases es c (.slice none 0 0) with hm | ⟨hz', _⟩
        · exact hzc (congrArg Prod.fst (a5 _ hz _ hm g hzg h))
        · rw [hz'] at h; simp [Value.ownBlock] at h
      · have := (a3 z hz).lt hzg; omega
    rcases (mem_updV hnd x).1 hx with rfl | ⟨hx', hxc⟩ <;> rcases (mem_updV hnd y).1 hy with rfl | ⟨hy', hyc⟩
    · rfl
    · exact (key y hy' hyc hgy hgx).elim
    · exact (key x hx' hxc hgx hgy).elim
    · exact a5 x hx' y hy' g hgx hgy
  · intro k hk'
    rcases hk' with rfl | ⟨x, hx, hxk⟩
    · exact .inl ((a6 k).2 (.inl rfl))
    · rcases (mem_updV hnd x).1 hx with rfl | ⟨hx', _⟩
      · rcases hblk k hxk with h | h
        · exact .inl (hF k h)
        · exact .inr h
      · exact .inl ((a6 k).2 (.inr ⟨x, hx', hxk⟩))
end Go.Proofs.YtgdokpfepfmbmaaDoor

namespace Go.Proofs.YtgdokpfepfmbmaaDoor
set_option linter.unusedVariables false
set_option linter.unusedSimpArgs false
open Go.RowKit

/-- The cells of a search. -/
def seCells (V1 V2 : Value) (bt : Nat) (fr s0 last : Int) (ms : Nat) : Array Value := #[V1, V2, .func (.func 67) #[.pointer (some ⟨bt, 0, none⟩)] #[], .func (.func 28) #[.pointer (some ⟨bt, 0, none⟩)] #[], .int .i64 fr, .int .i64 s0, .int .i64 last, .map (some ms)]
structure OfN (f : Flr) (w0 : World) (p bf ms bt : Nat) (fr s0 : Int) (V1 V2 : Value) (k1 k2 : Nat) (Vs : List SlC) (w : World) : Prop where
  blk : w.heap[p]? = some (.cells #[V1, V2, .func (.func 67) #[.pointer (some ⟨bt, 0, none⟩)] #[], .func (.func 28) #[.pointer (some ⟨bt, 0, none⟩)] #[], .int .i64 fr, .int .i64 s0, .int .i64 0, .map (some ms)] 89 (0, 0))
  bx : BxW f bf w0 w
  rs : MapI w ms []
  o1 : Own SvK 39 w V1 Vs
  o2 : Own BoK 4 w V2 (lnB f k2 k2)
  len : Vs.length = k1
  rd : ∀ (i : Nat) v, Vs[i]? = some v → Rd IK w (slv v) (ints (nearP f i)) ∧ ∀ g, (slv v).ownBlock = some g → g ≠ p ∧ V1.ownBlock ≠ some g ∧ V2.ownBlock ≠ some g ∧ g < w.heap.size ∧ g ≠ ms
  n1 : ∀ g, V1.ownBlock = some g → g ≠ p ∧ g ≠ bf ∧ g ≠ ms ∧ V2.ownBlock ≠ some g ∧ w0.heap.size ≤ g
  n2 : ∀ g, V2.ownBlock = some g → g ≠ p ∧ g ≠ bf ∧ g ≠ ms ∧ w0.heap.size ≤ g
  nb : p ≠ bf ∧ p ≠ ms ∧ w0.heap.size ≤ p ∧ w0.heap.size ≤ ms
section
variable {f : Flr} {w0 w wa w' : World} {p bf ms bt k1 k2 : Nat} {fr s0 : Int} {V1 V2 V' : Value} {Vs : List SlC}
theorem OfN.no (h : OfN f w0 p bf ms bt fr s0 V1 V2 k1 k2 Vs w) (hk : Kp No w w') : OfN f w0 p bf ms bt fr s0 V1 V2 k1 k2 Vs w' :=
  ⟨hk.blk h.blk (no_no _), h.bx.no hk, h.rs.kp hk (no_no _), h.o1.kpNo hk, h.o2.kpNo hk, h.len, fun i v hv => ⟨(h.rd i v hv).1.kpNo hk, fun g hg => let ⟨a, b, c, e⟩ := (h.rd i v hv).2 g hg; ⟨a, b, c, Nat.lt_of_lt_of_le e.1 hk.size, e.2⟩⟩, h.n1, h.n2, h.nb⟩
theorem OfN.c0 (h : OfN f w0 p bf ms bt fr s0 V1 V2 k1 k2 Vs w) : w.cell? ⟨p, 0, none⟩ = some V1 := blk_cell h.blk 0
theorem OfN.c1 (h : OfN f w0 p bf ms bt fr s0 V1 V2 k1 k2 Vs w) : w.cell? ⟨p, 1, none⟩ = some V2 := blk_cell h.blk 1
theorem OfN.fz (h : OfN f w0 p bf ms bt fr s0 V1 V2 k1 k2 Vs w) (i : Nat) : w.frozen? ⟨p, i, none⟩ = false := blk_free h.blk i
theorem OfN.lts (h : OfN f w0 p bf ms bt fr s0 V1 V2 k1 k2 Vs w) : p < w.heap.size ∧ bf < w.heap.size ∧ ms < w.heap.size ∧ w0.heap.size ≤ w.heap.size := ⟨lt_of_block h.blk, lt_of_block h.bx.box, h.rs.lt, h.bx.kp.size⟩
theorem OfN.app1 (h : OfN f w0 p bf ms bt fr s0 V1 V2 k1 k2 Vs w) {v : SlC} (hv : Rd IK w (slv v) (ints (nearP f k1))) (hb : ∀ g, (slv v).ownBlock = some g → g ≠ p ∧ V1.ownBlock ≠ some g ∧ V2.ownBlock ≠ some g ∧ g < w.heap.size ∧ g ≠ ms)
    (ho : Own SvK 39 w' V' (Vs ++ [v])) (hk : Kp (fun k => V1.ownBlock = some k) w w') (hn : ∀ g, V'.ownBlock = some g → V1.ownBlock = some g ∨ w.heap.size ≤ g) :
    OfN f w0 p bf ms bt fr s0 V' V2 (k1 + 1) k2 (Vs ++ [v]) (w'.setCell ⟨p, 0, none⟩ V') := by
  obtain ⟨l0, l1, l2, l3⟩ := h.lts
  have hs := (Kp.refl (fun j => j = p) w').setCell (p := ⟨p, 0, none⟩) (fun _ => rfl) V'
  have kk : Kp (fun j => V1.ownBlock = some j ∨ j = p) w (w'.setCell ⟨p, 0, none⟩ V') := (hk.mono (fun _ _ e => .inl e)).trans' hs (fun j _ e => .inr e)
  have m0 : ¬ V1.ownBlock = some p := fun e => (h.n1 _ e).1 rfl
  have all_ : ∀ v : SlC, ∀ l, Rd IK w (slv v) l → (∀ g, (slv v).ownBlock = some g → g ≠ p ∧ V1.ownBlock ≠ some g ∧ V2.ownBlock ≠ some g ∧ g < w.heap.size ∧ g ≠ ms) →
      Rd IK (w'.setCell ⟨p, 0, none⟩ V') (slv v) l ∧ ∀ g, (slv v).ownBlock = some g → g ≠ p ∧ V'.ownBlock ≠ some g ∧ V2.ownBlock ≠ some g ∧ g < (w'.setCell ⟨p, 0, none⟩ V').heap.size ∧ g ≠ ms := fun v l a b => by
    refine ⟨a.kp kk ?_, fun g hg => ?_⟩
    · rintro g hg (e | e)
      · exact (b g hg).2.1 e
      · exact (b g hg).1 e
    · obtain ⟨b1, b2, b3, b5⟩ := b g hg
      refine ⟨b1, fun e => ?_, b3, Nat.lt_of_lt_of_le b5.1 kk.size, b5.2⟩
      rcases hn g e with e2 | e2
      · exact b2 e2
      · omega
  refine ⟨?_, h.bx.kps kk ?_ ?_, h.rs.kp kk ?_, ho.kp hs (fun g hg e => ?_), h.o2.kp kk ?_, by rw [List.length_append, h.len]; rfl, fun i y hy => ?_, fun g hg => ?_, h.n2, h.nb⟩
  · have := blk_set (hk.blk h.blk m0) 0 V'; simpa using this
  · rintro (e | e)
    · exact (h.n1 _ e).2.1 rfl
    · exact h.nb.1 e.symm
  · rintro j (e | e)
    · exact (h.n1 _ e).2.2.2.2
    · rw [e]; exact h.nb.2.2.1
  · rintro (e | e)
    · exact (h.n1 _ e).2.2.1 rfl
    · exact h.nb.2.1 e.symm
  · rcases hn g hg with e2 | e2
    · exact (h.n1 _ e2).1 e
    · omega
  · rintro g hg (e | e)
    · exact (h.n1 _ e).2.2.2.1 hg
    · exact (h.n2 _ hg).1 e
  · rcases Nat.lt_or_ge i Vs.length with h1 | h1
    · rw [List.getElem?_append_left h1] at hy
      exact all_ y _ (h.rd i y hy).1 (h.rd i y hy).2
    · have h2 := (List.getElem?_eq_some_iff.1 hy).1
      simp at h2
      obtain rfl : i = k1 := by have := h.len; omega
      rw [← h.len] at hy
      simp at hy
      subst hy
      exact all_ _ _ hv hb
  · rcases hn g hg with e | e
    · exact h.n1 g e
    · exact ⟨by omega, by omega, by omega, fun e2 => by have := h.o2.lt e2; omega, by omega⟩
theorem OfN.app2 (h : OfN f w0 p bf ms bt fr s0 V1 V2 k1 k2 Vs w) (ho : Own BoK 4 w' V' (lnB f (k2 + 1) (k2 + 1))) (hk : Kp (fun k => V2.ownBlock = some k) w w') (hn : ∀ g, V'.ownBlock = some g → V2.ownBlock = some g ∨ w.heap.size ≤ g) :
    OfN f w0 p bf ms bt fr s0 V1 V' k1 (k2 + 1) Vs (w'.setCell ⟨p, 1, none⟩ V') := by
  obtain ⟨l0, l1, l2, l3⟩ := h.lts
  have hs := (Kp.refl (fun j => j = p) w').setCell (p := ⟨p, 1, none⟩) (fun _ => rfl) V'
  have kk : Kp (fun j => V2.ownBlock = some j ∨ j = p) w (w'.setCell ⟨p, 1, none⟩ V') := (hk.mono (fun _ _ e => .inl e)).trans' hs (fun j _ e => .inr e)
  have m0 : ¬ V2.ownBlock = some p := fun e => (h.n2 _ e).1 rfl
  refine ⟨?_, h.bx.kps kk ?_ ?_, h.rs.kp kk ?_, h.o1.kp kk ?_, ho.kp hs (fun g hg e => ?_), h.len, fun i y hy => ?_, fun g hg => ?_, fun g hg => ?_, h.nb⟩
  · have := blk_set (hk.blk h.blk m0) 1 V'; simpa using this
  · rintro (e | e)
    · exact (h.n2 _ e).2.1 rfl
    · exact h.nb.1 e.symm
  · rintro j (e | e)
    · exact (h.n2 _ e).2.2.2
    · rw [e]; exact h.nb.2.2.1
  · rintro (e | e)
    · exact (h.n2 _ e).2.2.1 rfl
    · exact h.nb.2.1 e.symm
  · rintro g hg (e | e)
    · exact (h.n1 _ hg).2.2.2.1 e
    · exact (h.n1 _ hg).1 e
  · rcases hn g hg with e2 | e2
    · exact (h.n2 _ e2).1 e
    · omega
  · obtain ⟨a, b⟩ := h.rd i y hy
    refine ⟨a.kp kk ?_, fun g hg => ?_⟩
    · rintro g hg (e | e)
      · exact (b g hg).2.2.1 e
      · exact (b g hg).1 e
    · obtain ⟨b1, b2, b3, b5⟩ := b g hg
      refine ⟨b1, b2, fun e => ?_, Nat.lt_of_lt_of_le b5.1 kk.size, b5.2⟩
      rcases hn g e with e2 | e2
      · exact b3 e2
      · omega
  · obtain ⟨a, b, c, d, e⟩ := h.n1 g hg
    refine ⟨a, b, c, fun e2 => ?_, e⟩
    rcases hn g e2 with e3 | e3
    · exact d e3
    · have := h.o1.lt hg; omega
  · rcases hn g hg with e | e
    · exact h.n2 g e
    · exact ⟨by omega, by omega, by omega, by omega⟩
end
theorem OfN.start (f : Flr) (w0 w : World) (bf bt : Nat) (fr s0 : Int) (h : BxW f bf w0 w) (ms p : Nat) (h1 : ms = w.heap.size) (h2 : p = w.heap.size + 1) : OfN f w0 p bf ms bt fr s0 (.slice none 0 0) (.slice none 0 0) 0 0 [] ((w.alloc (.map #[] 0)).alloc (.cells #[.slice none 0 0, .slice none 0 0, .func (.func 67) #[.pointer (some ⟨bt, 0, none⟩)] #[], .func (.func 28) #[.pointer (some ⟨bt, 0, none⟩)] #[], .int .i64 fr, .int .i64 s0, .int .i64 0, .map (some ms)] 89)) := by
  subst h1 h2
  have hl := lt_of_block h.box
  have hz := h.kp.size
  refine ⟨?_, h.no (((Kp.refl _ _).alloc _).alloc _), (MapI.made w).kp ((Kp.refl No _).alloc _) (no_no _), Own.nil _ _ _, Own.nil _ _ _, rfl, fun i v hv => by simp at hv, fun g hg => by simp [Value.ownBlock] at hg, fun g hg => by simp [Value.ownBlock] at hg, by omega⟩
  have := blk_new (w.alloc (.map #[] 0)) (.cells #[.slice none 0 0, .slice none 0 0, .func (.func 67) #[.pointer (some ⟨bt, 0, none⟩)] #[], .func (.func 28) #[.pointer (some ⟨bt, 0, none⟩)] #[], .int .i64 fr, .int .i64 s0, .int .i64 0, .map (some w.heap.size)] 89)
  simpa using this

/-! ### The search, made -/
/-- What a search is of. -/
structure SeP where
  f : Flr
  T : Int → List (Int × Int)
  fr : Nat
  s0 : Int
  bt : Nat
  b1 : Nat
  ms : Nat
  p : Nat
  A1 : Option Addr
  q1 : Nat
  A2 : Option Addr
  q2 : Nat
  Vs : List SlC
  n : Nat
def SeP.chg (Z : SeP) (k : Nat) : Prop := k = Z.p ∨ k = Z.ms ∨ Z.b1 ≤ k
def SeP.old (Z : SeP) (k : Nat) : Prop := k < Z.b1 ∧ k ≠ Z.p ∧ k ≠ Z.ms
theorem SeP.old_not {Z : SeP} {k : Nat} (h : Z.old k) : ¬ Z.chg k := by unfold SeP.old at h; unfold SeP.chg; omega
structure SeC (Z : SeP) (w : World) : Prop where
  hn : Z.n = Z.f.s.size
  rt : RightP Z.f
  ok : ptOk Z.f Z.fr = true
  s0 : 0 ≤ Z.s0 ∧ Z.s0 < 1048576
  wf : WFT Z.T
  nr : Rd SvK w (.slice Z.A1 Z.n Z.q1) Z.Vs
  ln : Rd BoK w (.slice Z.A2 Z.n Z.q2) (lnB Z.f Z.n Z.n)
  len : Z.Vs.length = Z.n
  rd : ∀ (i : Nat) v, Z.Vs[i]? = some v → Rd IK w (slv v) (ints (nearP Z.f i)) ∧ ∀ g, (slv v).ownBlock = some g → Z.old g
  o1 : ∀ g, (Value.slice Z.A1 Z.n Z.q1).ownBlock = some g → Z.old g
  o2 : ∀ g, (Value.slice Z.A2 Z.n Z.q2).ownBlock = some g → Z.old g
  tab : ∃ F, RepT w Z.bt Z.T F ∧ Z.old Z.bt ∧ ∀ k, F k → Z.old k
  lt : Z.p < Z.b1 ∧ Z.ms < Z.b1 ∧ Z.p ≠ Z.ms ∧ Z.b1 ≤ w.heap.size
theorem SeC.kp {Z : SeP} {w w' : World} {S : Nat → Prop} (h : SeC Z w) (hk : Kp S w w') (hs : ∀ k, S k → Z.chg k) : SeC Z w' := by
  obtain ⟨F, t1, t2, t3⟩ := h.tab
  have no : ∀ k, Z.old k → ¬ S k := fun k ho e => SeP.old_not ho (hs k e)
  exact ⟨h.hn, h.rt, h.ok, h.s0, h.wf, h.nr.kp hk fun g hg => no g (h.o1 g hg), h.ln.kp hk fun g hg => no g (h.o2 g hg), h.len, fun i v hv => ⟨(h.rd i v hv).1.kp hk fun g hg => no g ((h.rd i v hv).2 g hg), (h.rd i v hv).2⟩, h.o1, h.o2, ⟨F, t1.kp hk (no _ t2) fun b hb => no b (t3 b hb), t2, t3⟩, h.lt.1, h.lt.2.1, h.lt.2.2.1, Nat.le_trans h.lt.2.2.2 hk.size⟩
theorem SeC.no {Z : SeP} {w w' : World} (h : SeC Z w) (hk : Kp No w w') : SeC Z w' := h.kp hk fun _ e => e.elim
/-- The part that turns. -/
structure SeV (Z : SeP) (last : Int) (U : Int → List Sty) (F : Nat → Prop) (w : World) : Prop where
  blk : w.heap[Z.p]? = some (.cells #[.slice Z.A1 Z.n Z.q1, .slice Z.A2 Z.n Z.q2, .func (.func 67) #[.pointer (some ⟨Z.bt, 0, none⟩)] #[], .func (.func 28) #[.pointer (some ⟨Z.bt, 0, none⟩)] #[], .int .i64 (Z.fr : Int), .int .i64 Z.s0, .int .i64 last, .map (some Z.ms)] 89 (0, 0))
  rs : RepS w Z.ms U F
  fm : ∀ k, F k → k = Z.ms ∨ Z.b1 ≤ k
section
variable {Z : SeP} {last : Int} {U : Int → List Sty} {F : Nat → Prop} {w w' : World}
theorem SeV.no (h : SeV Z last U F w) (hk : Kp No w w') : SeV Z last U F w' := ⟨hk.blk h.blk (no_no _), h.rs.kpNo hk, h.fm⟩
theorem SeV.kp {S : Nat → Prop} (h : SeV Z last U F w) (hk : Kp S w w') (h1 : ¬ S Z.p) (h2 : ∀ k, F k → ¬ S k) : SeV Z last U F w' := ⟨hk.blk h.blk h1, h.rs.kp hk h2, h.fm⟩
theorem SeV.c0 (h : SeV Z last U F w) : w.cell? ⟨Z.p, 0, none⟩ = some (.slice Z.A1 Z.n Z.q1) := blk_cell h.blk 0
theorem SeV.c1 (h : SeV Z last U F w) : w.cell? ⟨Z.p, 1, none⟩ = some (.slice Z.A2 Z.n Z.q2) := blk_cell h.blk 1
theorem SeV.c2 (h : SeV Z last U F w) : w.cell? ⟨Z.p, 2, none⟩ = some (.func (.func 67) #[.pointer (some ⟨Z.bt, 0, none⟩)] #[]) := blk_cell h.blk 2
theorem SeV.c3 (h : SeV Z last U F w) : w.cell? ⟨Z.p, 3, none⟩ = some (.func (.func 28) #[.pointer (some ⟨Z.bt, 0, none⟩)] #[]) := blk_cell h.blk 3
theorem SeV.c4 (h : SeV Z last U F w) : w.cell? ⟨Z.p, 4, none⟩ = some (.int .i64 (Z.fr : Int)) := blk_cell h.blk 4
theorem SeV.c5 (h : SeV Z last U F w) : w.cell? ⟨Z.p, 5, none⟩ = some (.int .i64 Z.s0) := blk_cell h.blk 5
theorem SeV.c6 (h : SeV Z last U F w) : w.cell? ⟨Z.p, 6, none⟩ = some (.int .i64 last) := blk_cell h.blk 6
theorem SeV.c7 (h : SeV Z last U F w) : w.cell? ⟨Z.p, 7, none⟩ = some (.map (some Z.ms)) := blk_cell h.blk 7
theorem SeV.fz (h : SeV Z last U F w) (i : Nat) : w.frozen? ⟨Z.p, i, none⟩ = false := blk_free h.blk i
theorem SeC.free (h : SeC Z w) (c : Int) : Calls Tryd.prog 67 #[.pointer (some ⟨Z.bt, 0, none⟩), .int .i64 c] w (RetNew WK 43 (freeL (Z.T c)) w) := let ⟨_, t1, _⟩ := h.tab; free_any t1 h.wf c
theorem SeC.is_ (h : SeC Z w) (c m : Int) : Calls Tryd.prog 28 #[.pointer (some ⟨Z.bt, 0, none⟩), .int .i64 c, .int .i64 m] w fun e w' => e = .returned (.bool (isF (Z.T c) m)) ∧ Kp No w w' := let ⟨_, t1, _⟩ := h.tab; wis_any t1 h.wf c m
end
end Go.Proofs.YtgdokpfepfmbmaaDoor

namespace Go.Proofs.YtgdokpfepfmbmaaDoor
set_option linter.unusedVariables false
set_option linter.unusedSimpArgs false
open Go.RowKit

noncomputable def spOk (f : Flr) (fr s0 : Int) : Bool := ptOk f fr && decide (0 ≤ s0) && decide (s0 < 1048576)
set_option maxRecDepth 100000 in
theorem spof_nil (f : Flr) (fr s0 : Int) (w : World) : Calls Tryd.prog 38 #[f.val, .pointer none, .int .i64 fr, .int .i64 s0] w fun e w' => e = .returned (.tuple #[.pointer none, .bool false]) ∧ Kp No w w' := by
  have HBX := Lib.hid (BxW.new f w)
  obtain ⟨X, Y, s⟩ := f
  unfold Flr.val
  go_enter Tryd.func38, Tryd.ntmps38
  go_wp2_with fail
  go_ret2
  exact ⟨rfl, HBX.out.kp⟩
set_option maxHeartbeats 1000000 in
set_option maxRecDepth 100000 in
theorem spof_no (f : Flr) (hsz : f.s.size ≤ 1000000) (tb : Nat) (fr s0 : Int) (h : spOk f fr s0 = false) (w : World) :
    Calls Tryd.prog 38 #[f.val, .pointer (some ⟨tb, 0, none⟩), .int .i64 fr, .int .i64 s0] w fun e w' => e = .returned (.tuple #[.pointer none, .bool false]) ∧ Kp No w w' := by
  have HBX := Lib.hid (BxW.new f w)
  obtain ⟨n, hn⟩ : ∃ n, n = f.s.size := ⟨_, rfl⟩
  have hnI : ((f.s.size : Nat) : Int) = (n : Int) := by omega
  unfold spOk ptOk at h
  rw [← hn] at h
  by_cases h0 : fr < 0
  · have h0b : decide (fr < 0) = true := by simpa using h0
    obtain ⟨X, Y, s⟩ := f
    unfold Flr.val
    clear h hn hnI hsz
    go_enter Tryd.func38, Tryd.ntmps38
    go_wp2_with fail
    go_ret2
    exact ⟨rfl, HBX.out.kp⟩
  · have h0b : decide (fr < 0) = false := by simpa using h0
    by_cases h1 : (n : Int) ≤ fr
    · have h1b : decide ((n : Int) ≤ fr) = true := by simpa using h1
      obtain ⟨X, Y, s⟩ := f
      simp only at hnI
      unfold Flr.val
      clear h hn hsz
      go_enter Tryd.func38, Tryd.ntmps38
      go_wp2_with fail
      go_ret2
      exact ⟨rfl, HBX.out.kp⟩
    · have h1b : decide ((n : Int) ≤ fr) = false := by simpa using h1
      obtain ⟨j, rfl⟩ : ∃ j : Nat, fr = j := ⟨fr.toNat, by omega⟩
      by_cases h2 : s0 < 0
      · have h2b : decide (s0 < 0) = true := by simpa using h2
        obtain ⟨X, Y, s⟩ := f
        simp only at hnI
        unfold Flr.val
        clear h hn hsz
        go_enter Tryd.func38, Tryd.ntmps38
        go_wp2_with fail
        go_ret2
        exact ⟨rfl, HBX.out.kp⟩
      · have h2b : decide (s0 < 0) = false := by simpa using h2
        by_cases h3 : s0 ≥ 1048576
        · have h3b : decide (s0 ≥ 1048576) = true := by simpa using h3
          obtain ⟨X, Y, s⟩ := f
          simp only at hnI
          unfold Flr.val
          clear h hn hsz
          go_enter Tryd.func38, Tryd.ntmps38
          go_wp2_with fail
          go_ret2
          exact ⟨rfl, HBX.out.kp⟩
        · have h3b : decide (s0 ≥ 1048576) = false := by simpa using h3
          cases hb : rightB f with
          | false =>
            have HRT := Lib.hid (right_at f (by omega) false hb)
            obtain ⟨X, Y, s⟩ := f
            simp only at hnI
            unfold Flr.val at HRT ⊢
            clear h hn hsz hb
            go_enter Tryd.func38, Tryd.ntmps38
            go_wp2_with (go_at_call 61; refine (HRT.out _).mono ?_; rintro e w1 ⟨rfl, kp1⟩; have K1 := Lib.hid kp1; clear kp1)
            go_ret2
            exact ⟨rfl, HBX.out.kp.no K1.out⟩
          | true =>
            have h35 : bt f.s j = 35 := by
              rw [hb] at h
              have d1 : decide ((0 : Int) ≤ (j : Int)) = true := by simp
              have d2 : decide ((j : Int) < (n : Int)) = true := by simp; omega
              have d3 : decide (0 ≤ s0) = true := by simp; omega
              have d4 : decide (s0 < 1048576) = true := by simp; omega
              rw [d1, d2, d3, d4] at h
              simpa using h
            have HRT := Lib.hid (right_at f (by omega) true hb)
            have hjs : j < f.s.size := by omega
            have hbt := bt_at f.s j hjs
            rw [h35] at hbt
            obtain ⟨X, Y, s⟩ := f
            simp only at hnI hbt hjs
            have hbs : ((s[j]'hjs).toNat : Int) = 35 := by rw [hbt]; rfl
            unfold Flr.val at HRT ⊢
            clear h hn hsz hb h35
            go_enter Tryd.func38, Tryd.ntmps38
            go_wp2_with (go_at_call 61; refine (HRT.out _).mono ?_; rintro e w1 ⟨rfl, kp1⟩; have K1 := Lib.hid kp1; have hb2 : w1.cell? ⟨w.heap.size, 2, none⟩ = some (.string s) := (HBX.out.no K1.out).c2; clear kp1)
            go_ret2
            exact ⟨rfl, HBX.out.kp.no K1.out⟩
/-- The search that was made. -/
def OfO (f : Flr) (T : Int → List (Int × Int)) (fr : Nat) (s0 : Int) (tb : Nat) (w : World) (e : Ending) (w' : World) : Prop :=
  ∃ Z : SeP, Z.f = f ∧ Z.T = T ∧ Z.fr = fr ∧ Z.s0 = s0 ∧ Z.bt = tb ∧ e = .returned (.tuple #[.pointer (some ⟨Z.p, 0, none⟩), .bool true]) ∧ SeC Z w' ∧ SeV Z 0 (fun _ => []) (fun k => k = Z.ms) w' ∧ Kp No w w' ∧ w.heap.size ≤ Z.p ∧ w.heap.size ≤ Z.ms ∧ w.heap.size ≤ Z.b1
set_option maxHeartbeats 2000000 in
set_option maxRecDepth 100000 in
theorem spof_ok (f : Flr) (hsz : f.s.size ≤ 1000000) (T : Int → List (Int × Int)) (hT : WFT T) (fr : Nat) (s0 : Int) (tb : Nat) {FT : Nat → Prop} {w : World} (hR : RepT w tb T FT) (h : spOk f fr s0 = true) :
    Calls Tryd.prog 38 #[f.val, .pointer (some ⟨tb, 0, none⟩), .int .i64 (fr : Int), .int .i64 s0] w (OfO f T fr s0 tb w) := by
  obtain ⟨F, hF⟩ : ∃ F, F = f := ⟨_, rfl⟩
  have HF := Lib.hid hF
  rw [show OfO f T fr s0 tb w = OfO F T fr s0 tb w by rw [hF]]
  unfold OfO
  have HBX := Lib.hid (BxW.new f w)
  have HBX2 := Lib.hid (BxW.new F w)
  have hok : ptOk f fr = true := by unfold spOk at h; simp only [Bool.and_eq_true] at h; exact h.1.1
  have hs0 : 0 ≤ s0 ∧ s0 < 1048576 := by unfold spOk at h; simp only [Bool.and_eq_true, decide_eq_true_eq] at h; exact ⟨h.1.2, h.2⟩
  have HOK := Lib.hid (show ptOk F fr = true by rw [hF]; exact hok)
  have HS0 := Lib.hid hs0; have HT := Lib.hid hT; have HRT0 := Lib.hid hR
  obtain ⟨n, hn⟩ : ∃ n, n = f.s.size := ⟨_, rfl⟩
  have hnI : ((f.s.size : Nat) : Int) = (n : Int) := by omega
  obtain ⟨j, hj, hfrn, hr⟩ := ptOk_nat hok
  obtain rfl : fr = j := by omega
  have hs256 : f.s.size ≤ 256 := hr.s256
  have hn256 : n ≤ 256 := by omega
  have h35 : bt f.s fr ≠ 35 := by
    unfold ptOk at hok
    simp only [Bool.and_eq_true, decide_eq_true_eq, bne_iff_ne, Int.toNat_natCast] at hok
    exact hok.2
  have h1b : decide ((n : Int) ≤ (fr : Int)) = false := by simp; omega
  have h0b : decide ((fr : Int) < 0) = false := by simp
  have h1n : decide (n ≤ fr) = false := by simp; omega
  have h2b : decide (s0 < 0) = false := by simp; omega
  have h3b : decide (s0 ≥ 1048576) = false := by simp; omega
  have HRT := Lib.hid (right_at f (by omega) true (rightB_iff.2 hr))
  have HR := Lib.hid (show rightB F = true by rw [hF]; exact rightB_iff.2 hr)
  have hjs : fr < f.s.size := hfrn
  have hbt := bt_at f.s fr hjs
  have h35b : ((bt f.s fr : Int) == 35) = false := by simp; omega
  have HN := Lib.hid (show n = F.s.size by rw [hF]; exact hn)
  have hmm := @run_makeMap Tryd.prog
  obtain ⟨X, Y, s⟩ := f
  simp only at hnI hbt hjs h35b
  have hbs : ((s[fr]'hjs).toNat : Int) = (bt s fr : Int) := by rw [hbt]
  unfold Flr.val at HRT ⊢
  clear hok hs0 hj hfrn hr hs256 h35 hF hn hsz h hT hR
  go_enter Tryd.func38, Tryd.ntmps38
  go_upto_region 4 with (go_at_call 61; refine (HRT.out _).mono ?_; rintro e w1 ⟨rfl, kp1⟩; have K1 := Lib.hid kp1; have hb2 : w1.cell? ⟨w.heap.size, 2, none⟩ = some (.string s) := (HBX.out.no K1.out).c2; clear kp1)
  obtain ⟨w2, hw2⟩ : ∃ x : World, x = (w1.alloc (.map #[] 0)).alloc (.cells #[.slice none 0 0, .slice none 0 0, .func (.func 67) #[.pointer (some ⟨tb, 0, none⟩)] #[], .func (.func 28) #[.pointer (some ⟨tb, 0, none⟩)] #[], .int .i64 (fr : Int), .int .i64 s0, .int .i64 0, .map (some w1.heap.size)] 89) := ⟨_, rfl⟩
  have O2 := Lib.hid (show OfN F w (w1.heap.size + 1) w.heap.size w1.heap.size tb (fr : Int) s0 (.slice none 0 0) (.slice none 0 0) 0 0 [] w2 by
    rw [hw2]
    exact OfN.start F w w1 w.heap.size tb fr s0 (HBX2.out.no (by rw [HF.out]; exact K1.out)) _ _ rfl rfl)
  rw [← hw2]
  obtain ⟨bf, hbf⟩ : ∃ b, b = w.heap.size := ⟨_, rfl⟩
  obtain ⟨ms, hms⟩ : ∃ b, b = w1.heap.size := ⟨_, rfl⟩
  obtain ⟨p, hp⟩ : ∃ b, b = w1.heap.size + 1 := ⟨_, rfl⟩
  rw [← hp, ← hbf, ← hms] at O2
  rw [← hp, ← hbf]
  clear hmm hw2 hbf hms hp HBX HBX2 hb2 K1
  have lb : ∀ wx k1 k2 V1 V2 Vs', OfN F w p bf ms tb fr s0 V1 V2 k1 k2 Vs' wx → wx.cell? ⟨bf, 0, none⟩ = some (.int .i64 X) ∧ wx.cell? ⟨bf, 1, none⟩ = some (.int .i64 Y) ∧ wx.cell? ⟨bf, 2, none⟩ = some (.string s) := fun wx k1 k2 V1 V2 Vs' h => by
    have h0 := h.bx.c0; have h1 := h.bx.c1; have h2 := h.bx.c2
    rw [HF.out] at h0 h1 h2; exact ⟨h0, h1, h2⟩
  have LB := Lib.hid lb
  clear lb
  obtain ⟨hb0, hb1, hb2⟩ := LB.out _ _ _ _ _ _ O2.out
  go_wp2_with fail
  go_loopg [59] (n + 1) (fun g_ iv wx => ∃ (i : Nat) (A1 : Option Addr) (q1 : Nat) (A2 : Option Addr) (q2 : Nat) (Vs : List SlC), g_ = n + 1 - i ∧ iv = .int .i64 i ∧ i ≤ n ∧ OfN F w p bf ms tb fr s0 (.slice A1 i q1) (.slice A2 i q2) i i Vs wx)
  case atStart => exact ⟨0, none, 0, none, 0, [], rfl, rfl, by omega, O2.out⟩
  case round =>
    obtain ⟨i, A1, q1, A2, q2, Vs, hg, rfl, hi, om⟩ := hrel
    have OM := Lib.hid om
    clear om O2 hb0 hb1 hb2
    obtain ⟨hb0, hb1, hb2⟩ := LB.out _ _ _ _ _ _ OM.out
    by_cases hlt : i < n
    · have hltI : (i : Int) < (n : Int) := by omega
      have hwi : IntKind.i64.wrap ((i : Int) + 1) = (i : Int) + 1 := IntWalk.i64_in _ (by omega)
      have hiF : i < F.s.size := by rw [← HN.out]; exact hlt
      obtain ⟨L, hL⟩ : ∃ L, nearP F i = L := ⟨_, rfl⟩
      have NE := Lib.hid (near_at F (by rw [← HN.out]; omega) i (by omega) L hL)
      obtain ⟨Z, hZ⟩ : ∃ Z, zoneP F i = Z := ⟨_, rfl⟩
      obtain ⟨zi, hzi⟩ : ∃ zi : Nat, zi = Z.getD 0 := ⟨_, rfl⟩
      obtain ⟨zb, hzb⟩ : ∃ zb : Bool, zb = Z.isSome := ⟨_, rfl⟩
      have ZO := Lib.hid (zone_at F (by rw [← HN.out]; omega) i (by omega) Z hZ (.tuple #[.int .i64 (zi : Int), .bool zb]) (by rw [hzi, hzb]; rfl))
      have HZB := Lib.hid (show zb = decide (kdS F.s i = 2) by rw [hzb, ← hZ]; exact zone_isSome F i HR.out hiF)
      rw [HF.out] at NE ZO
      unfold Flr.val at NE ZO
      simp only at NE ZO
      have HL := Lib.hid hL
      clear hL hZ hzi hzb hiF hlt
      go_wp2_with fail
      refine (ZO.out _).mono ?_
      rintro e w2 ⟨rfl, kz⟩
      have O2 := Lib.hid (OM.out.no kz)
      clear kz hb0 hb1 hb2 OM
      obtain ⟨hb0, hb1, hb2⟩ := LB.out _ _ _ _ _ _ O2.out
      have hm0 := O2.out.c0
      go_upto_region 8 with fail
      go_cut [68, 69, 70, 71, 72, 73, 74, 75, 76, 77, 78, 79] (fun _ _ _ _ _ _ _ _ _ _ _ _ wx => ∃ A1' q1' Vs', OfN F w p bf ms tb fr s0 (.slice A1' (i + 1) q1') (.slice A2 i q2) (i + 1) i Vs' wx)
      case first =>
        go_region_law (first
          | (go_simp; go_at_call 32; refine (NE.out _).mono ?_; rintro e w3 ⟨A, q, rfl, ns⟩; have L3 := O2.out.no (w' := w3) (Kp.trans ((Kp.refl No _).drew) ns.kp); have d0 := L3.c0; have d0a : ∀ o, (w3.alloc o).cell? ⟨p, 0, none⟩ = some (.slice A1 i q1) := fun o => (L3.no ((Kp.refl No w3).alloc o)).c0; have L3 := Lib.hid L3; have NS := Lib.hid ns; clear ns)
          | (refine stp_app elSv rfl (.tmp 72) (.tmp 76) rfl rfl rfl (v := .slice A1 i q1) (l := Vs) (m := [(A, L.length, q)]) (L3.out.no ((Kp.refl No w3).alloc _)).o1 (Rd.litAt SvK 39 w3 _ [(A, L.length, q)] rfl (by unfold maxLen; simp) _ _ rfl rfl) (by rw [L3.out.len]; unfold maxLen; simp; omega) (by rw [L3.out.len]; simp; omega) ?_; intro V4 w4 m1 m2 m3; obtain ⟨A4, q4, rfl⟩ := m1.rd.shape; rw [List.length_append, L3.out.len, List.length_singleton] at m1 m3 ⊢; have B4 := m2.blk (L3.out.no ((Kp.refl No w3).alloc _)).blk (fun e => (L3.out.n1 _ e).1 rfl); have F4 : w4.frozen? ⟨p, 0, none⟩ = false := blk_free B4 0; have C4 : w4.cell? ⟨p, 0, none⟩ = some (.slice A1 i q1) := blk_cell B4 0; have M1 := Lib.hid m1; have M2 := Lib.hid m2; have M3 := Lib.hid m3; clear m1 m2 m3 B4))
        all_goals
          have AP := Lib.hid ((L3.out.no ((Kp.refl No w3).alloc (.cells #[.slice A L.length q] 39))).app1 (v := (A, L.length, q)) (by rw [HL.out]; exact NS.out.own.rd.alloc _) (fun g hg => by
            have h1 := NS.out.ge g hg
            have h2 := NS.out.own.lt hg
            have h1 : w2.heap.size ≤ g := by simpa using h1
            obtain ⟨l0, l1, l2, l3⟩ := O2.out.lts
            exact ⟨by omega, fun e => by have := O2.out.o1.lt e; omega, fun e => by have := O2.out.o2.lt e; omega, by simp; omega, by omega⟩) M1.out M2.out M3.out)
          go_wp2_with fail
          go_meet
          exact ⟨_, _, _, AP.out.no ((Kp.refl No _).drewN 0)⟩
      case rest =>
        obtain ⟨A4, q4, V4, om⟩ := hcut
        have O4 := Lib.hid om
        clear om hb0 hb1 hb2 hm0 O2
        have hm1 := O4.out.c1
        have HL2 := Lib.hid (lnB_len F i i)
        obtain ⟨wd, hwd⟩ : ∃ x : World, x = wc := ⟨_, rfl⟩
        rw [← hwd] at O4 hm1 ⊢
        clear hwd
        go_wp2_with (at_builtin; refine wpl_append elBo rfl (.tmp 84) (.tmp 86) rfl rfl rfl (v := .slice A2 i q2) (l := lnB F i i) (m := [zb]) (O4.out.o2.alloc _) (Rd.litAt BoK 4 _ _ [zb] rfl (by unfold maxLen; simp) _ _ rfl rfl) (by rw [HL2.out]; unfold maxLen; simp; omega) (by rw [HL2.out]; simp; omega) ?_; intro V5 w5 m1 m2 m3; obtain ⟨A5, q5, rfl⟩ := m1.rd.shape; rw [List.length_append, HL2.out, List.length_singleton] at m1 m3 ⊢; rw [← lnB_snoc F i zb HZB.out] at m1; have B5 := m2.blk (O4.out.no ((Kp.refl No wd).alloc _)).blk (fun e => (O4.out.n2 _ e).1 rfl); have F5 : w5.frozen? ⟨p, 1, none⟩ = false := blk_free B5 1; have C5 : w5.cell? ⟨p, 1, none⟩ = some (.slice A2 i q2) := blk_cell B5 1; have AP := Lib.hid ((O4.out.no ((Kp.refl No wd).alloc _)).app2 m1 m2 m3); clear m1 m2 m3 B5)
        go_roundg (n + 1 - (i + 1))
        case measure => omega
        case rel => exact ⟨i + 1, A4, q4, A5, q5, V4, rfl, by go_num, by omega, AP.out.no ((Kp.refl No _).drewN 0)⟩
    · obtain rfl : i = n := by omega
      have hd0 : ¬ (i : Int) < (i : Int) := by omega
      clear hlt
      have hrt := rightB_iff.1 HR.out
      obtain ⟨l0, l1, l2, l3⟩ := OM.out.lts
      have tl := HRT0.out.lt
      have nb := OM.out.nb
      have RES := Lib.hid (show SeC ⟨F, T, fr, s0, tb, wr.heap.size, ms, p, A1, q1, A2, q2, Vs, i⟩ wr ∧ SeV ⟨F, T, fr, s0, tb, wr.heap.size, ms, p, A1, q1, A2, q2, Vs, i⟩ 0 (fun _ => []) (fun k => k = ms) wr by
        refine ⟨⟨HN.out, hrt, HOK.out, HS0.out, HT.out, OM.out.o1.rd, OM.out.o2.rd, OM.out.len, fun k v hv => ⟨(OM.out.rd k v hv).1, fun g hg => ?_⟩, fun g hg => ?_, fun g hg => ?_, ⟨FT, HRT0.out.kpNo OM.out.bx.kp, ?_, fun k hk => ?_⟩, l0, l2, nb.2.1, Nat.le_refl _⟩, OM.out.blk, ⟨[], OM.out.rs, by simp, fun _ _ => rfl, by simp, fun b => by simp⟩, fun k hk => .inl hk⟩
        · obtain ⟨a, b, c, d, e⟩ := (OM.out.rd k v hv).2 g hg
          exact ⟨d, a, e⟩
        · obtain ⟨a, b, c, d⟩ := OM.out.n1 g hg
          exact ⟨OM.out.o1.lt hg, a, c⟩
        · obtain ⟨a, b, c, d⟩ := OM.out.n2 g hg
          exact ⟨OM.out.o2.lt hg, a, c⟩
        · unfold SeP.old; simp only; omega
        · have := tl.2 k hk; unfold SeP.old; simp only; omega)
      have KK := Lib.hid OM.out.bx.kp
      have NB := Lib.hid nb
      have SZ := Lib.hid l3
      clear hrt l0 l1 l2 l3 tl nb hb0 hb1 hb2
      go_wp2_with fail
      go_ret2
      exact ⟨_, rfl, rfl, rfl, rfl, rfl, rfl, RES.out.1, RES.out.2, KK.out, NB.out.2.2.1, NB.out.2.2.2, SZ.out⟩
end Go.Proofs.YtgdokpfepfmbmaaDoor

namespace Go.Proofs.YtgdokpfepfmbmaaDoor
set_option linter.unusedVariables false
set_option linter.unusedSimpArgs false
open Go.RowKit

theorem fstT_snoc (l : List (Int × Int)) (t : Int) (k : Nat) (x : Int × Int) (h : l[k]? = some x) : fstT (l.take (k + 1)) t = if x.1 ≤ fstT (l.take k) t ∧ fstT (l.take k) t < x.2 then x.2 else fstT (l.take k) t := by
  unfold fstT; rw [List.take_add_one, h, List.foldl_append]; rfl
/-- A block of three numbers. -/
theorem blk3_set {w : World} {g : Nat} {a b c : Value} {t : TypeId} (h : w.heap[g]? = some (.cells #[a, b, c] t (0, 0))) (v : Value) : (w.setCell ⟨g, 2, none⟩ v).heap[g]? = some (.cells #[a, b, v] t (0, 0)) := by
  have := blk_set h 2 v; simpa using this
set_option maxHeartbeats 1000000 in
set_option maxRecDepth 100000 in
theorem spfirst_any {Z : SeP} {last : Int} {U : Int → List Sty} {F : Nat → Prop} {w : World} (hc : SeC Z w) (hv : SeV Z last U F w) :
    Calls Tryd.prog 46 #[.pointer (some ⟨Z.p, 0, none⟩)] w fun e w' => e = .returned (fstS Z.T Z.fr Z.s0).val ∧ Kp No w w' := by
  have HC := Lib.hid hc
  obtain ⟨w1, hw1⟩ : ∃ x : World, x = w.alloc (.cells #[.int .i64 0, .int .i64 0, .int .i64 0] 100) := ⟨_, rfl⟩
  have K1 := Lib.hid (show Kp No w w1 by rw [hw1]; exact (Kp.refl _ _).alloc _)
  have V1 := Lib.hid (hv.no K1.out)
  obtain ⟨b0, hb0⟩ : ∃ b, b = w.heap.size := ⟨_, rfl⟩
  have B0 := Lib.hid (show w1.heap[b0]? = some (.cells #[.int .i64 0, .int .i64 0, .int .i64 0] 100 (0, 0)) by rw [hw1, hb0]; exact blk_new w _)
  have c4 := V1.out.c4
  have c5 := V1.out.c5
  have c4a : ∀ o, (w1.alloc o).cell? ⟨Z.p, 4, none⟩ = some (.int .i64 (Z.fr : Int)) := fun o => (V1.out.no ((Kp.refl No w1).alloc o)).c4
  have c5a : ∀ o, (w1.alloc o).cell? ⟨Z.p, 5, none⟩ = some (.int .i64 Z.s0) := fun o => (V1.out.no ((Kp.refl No w1).alloc o)).c5
  have hs := hc.s0
  have hw : IntKind.i64.wrap (Z.s0 + 1) = Z.s0 + 1 := IntWalk.i64_in _ (by omega)
  have HW1 := Lib.hid hw1
  have HB0 := Lib.hid hb0
  obtain ⟨ws, hws⟩ : ∃ l, l = freeL (Z.T (Z.fr : Int)) := ⟨_, rfl⟩
  have HWS := Lib.hid hws
  have hwf := hc.wf (Z.fr : Int)
  have hbd := Lib.hid (show ∀ x ∈ ws, 0 ≤ x.1 ∧ x.1 < x.2 ∧ x.2 ≤ 1048576 by rw [hws]; exact (free_ord hwf).1)
  have HLN := Lib.hid (show ws.length ≤ 4097 by rw [hws]; have := freeL_len (Z.T (Z.fr : Int)); have := hwf.len; omega)
  clear hc hv hw1 hb0 hs hws hwf
  go_enter Tryd.func46, Tryd.ntmps46
  go_wp2_with fail
  rw [← HW1.out, ← HB0.out]
  go_cut [3, 6, 7, 8, 9, 10, 11, 12, 13, 14, 15, 16, 17, 18, 19] (fun v3 _ _ _ _ _ _ _ _ _ _ _ _ _ _ wx => ∃ b3, v3 = .pointer (some ⟨b3, 0, none⟩) ∧ wx.heap[b3]? = some (.cells #[.int .i64 (Z.fr : Int), .int .i64 Z.s0, .int .i64 (Z.s0 + 1)] 100 (0, 0)) ∧ Kp No w1 wx ∧ w1.heap.size ≤ b3)
  case first =>
    go_region
    all_goals
      go_wp2_with fail
      go_meet
      exact ⟨_, rfl, blk_new w1 _, ((Kp.refl _ _).alloc _).drew, Nat.le_refl _⟩
  case rest =>
    obtain ⟨b3, rfl, hb3, k3, hge⟩ := hcut
    obtain ⟨w3, hw3⟩ : ∃ x : World, x = wc := ⟨_, rfl⟩
    rw [← hw3] at hb3 k3 ⊢
    have V3 := Lib.hid (V1.out.no k3)
    have K3 := Lib.hid (K1.out.no k3)
    have B3 := Lib.hid hb3
    have B03 := Lib.hid (k3.blk B0.out (no_no _))
    have NE := Lib.hid (show b3 ≠ b0 ∧ w.heap.size ≤ b3 by have := lt_of_block B0.out; have := K1.out.size; omega)
    have FR := Lib.hid (HC.out.no K3.out).free
    clear hw3 hb3 k3 hge c4 c5 c4a c5a
    have c4 := V3.out.c4
    have c2 := V3.out.c2
    go_upto_region 2 with fail
    go_cut [20, 21, 22, 23, 24, 25, 26, 27, 28, 29, 30] (fun _ _ _ _ _ _ _ _ v28 v29 v30 wx => ∃ A q, v28 = .slice A ws.length q ∧ v29 = .int .i64 (ws.length : Int) ∧ v30 = .int .i64 0 ∧ Rd WK wx (.slice A ws.length q) ws ∧ Kp No w3 wx ∧ ∀ g, (Value.slice A ws.length q).ownBlock = some g → g ≠ b3)
    case first =>
      have FR2 := Lib.hid ((HC.out.no K3.out).no (Kp.refl _ _).drew |>.free (Z.fr : Int))
      go_region_law (go_simp; go_at_call 67; refine FR2.out.mono ?_; rintro e w4 ⟨v4, rfl, o4, k4, g4⟩; obtain ⟨A4, q4, rfl⟩ := o4.rd.shape; rw [← HWS.out] at o4 g4 ⊢; have O4 := Lib.hid o4; have K4 := Lib.hid k4; have G4 := Lib.hid g4; clear o4 k4 g4)
      all_goals
        go_wp2_with fail
        go_meet
        exact ⟨A4, q4, rfl, rfl, rfl, O4.out.rd, (Kp.refl No _).drew.no K4.out, fun g hg e => by have h1 := G4.out g hg; have h1 : w3.heap.size ≤ g := h1; have := lt_of_block B3.out; omega⟩
    case rest =>
      obtain ⟨A, q, rfl, rfl, rfl, rd, k5, ne3⟩ := hcut
      obtain ⟨w5, hw5⟩ : ∃ x : World, x = wc := ⟨_, rfl⟩
      rw [← hw5] at rd k5 ⊢
      obtain ⟨m, hm⟩ : ∃ m, m = ws.length := ⟨_, rfl⟩
      rw [← hm] at rd ne3 HLN ⊢
      have hln := HLN.out
      have HM := Lib.hid hm; have RD := Lib.hid rd; have NE3 := Lib.hid ne3
      have B5 := Lib.hid (k5.blk B3.out (no_no _))
      have B05 := Lib.hid (k5.blk B03.out (no_no _))
      have K5 := Lib.hid (K3.out.no k5)
      clear hw5 rd k5 ne3 hm c4 c2 B3 B03
      go_wp2_with fail
      go_loopg [30] (m + 1) (fun g_ iv wx => ∃ i : Nat, g_ = m + 1 - i ∧ iv = .int .i64 i ∧ i ≤ m ∧ wx.heap[b3]? = some (.cells #[.int .i64 (Z.fr : Int), .int .i64 Z.s0, .int .i64 (fstT (ws.take i) (Z.s0 + 1))] 100 (0, 0)) ∧ Kp (fun j => j = b3) w5 wx)
      case atStart => exact ⟨0, rfl, rfl, by omega, by simpa [fstT] using B5.out, Kp.refl _ _⟩
      case round =>
        obtain ⟨i, hg, rfl, hi, hb, kp⟩ := hrel
        have HB := Lib.hid hb; have KP := Lib.hid kp
        have hl3 := lt_of_block hb
        have rd := RD.out.kp kp (fun g hg e => NE3.out g hg e)
        obtain ⟨t, ht⟩ : ∃ t, t = fstT (ws.take i) (Z.s0 + 1) := ⟨_, rfl⟩
        have HT := Lib.hid ht
        rw [← ht] at HB
        have b30 : wr.cell? ⟨b3, 0, none⟩ = some (.int .i64 (Z.fr : Int)) := blk_cell HB.out 0
        have b31 : wr.cell? ⟨b3, 1, none⟩ = some (.int .i64 Z.s0) := blk_cell HB.out 1
        have b32 : wr.cell? ⟨b3, 2, none⟩ = some (.int .i64 t) := blk_cell HB.out 2
        have b3f : ∀ o, wr.frozen? ⟨b3, o, none⟩ = false := fun o => blk_free HB.out o
        clear hb kp ht
        by_cases hlt : i < m
        · have hltI : (i : Int) < (m : Int) := by omega
          have hwi : IntKind.i64.wrap ((i : Int) + 1) = (i : Int) + 1 := IntWalk.i64_in _ (by omega)
          obtain ⟨x, hx⟩ : ∃ x, ws[i]? = some x := ⟨_, List.getElem?_eq_getElem (by rw [← HM.out]; exact hlt)⟩
          rcases rd with ⟨_, he⟩ | ⟨g, o, cap', hv, _⟩
          · have := HM.out; rw [he, List.length_nil] at this; omega
          simp only [Value.slice.injEq] at hv
          obtain ⟨rfl, hzz, rfl⟩ := hv
          obtain ⟨x1, x2⟩ := (RD.out.kp KP.out (fun g hg e => NE3.out g hg e)).winAt hx
          have HX := Lib.hid (fstT_snoc ws (Z.s0 + 1) i x hx)
          rw [← HT.out] at HX
          clear hx hlt hzz
          by_cases h1 : x.1 ≤ t
          · by_cases h2 : t < x.2
            · have d1 : decide (x.1 ≤ t) = true := by simpa using h1
              have d2 : decide (t < x.2) = true := by simpa using h2
              rw [if_pos ⟨h1, h2⟩] at HX
              clear h1 h2
              go_wp2_with fail
              go_roundg (m + 1 - (i + 1))
              case measure => omega
              case rel => exact ⟨i + 1, rfl, by go_num, by omega, by rw [HX.out]; exact blk_alloc (blk3_set HB.out _) _, (KP.out.setCell (p := ⟨b3, 2, none⟩) (fun _ => rfl) _).alloc _⟩
            · have d1 : decide (x.1 ≤ t) = true := by simpa using h1
              have d2 : decide (t < x.2) = false := by simpa using h2
              rw [if_neg (fun e => h2 e.2)] at HX
              clear h1 h2
              go_wp2_with fail
              go_roundg (m + 1 - (i + 1))
              case measure => omega
              case rel => exact ⟨i + 1, rfl, by go_num, by omega, by rw [HX.out]; exact blk_alloc HB.out _, KP.out.alloc _⟩
          · have d1 : decide (x.1 ≤ t) = false := by simpa using h1
            rw [if_neg (fun e => h1 e.1)] at HX
            clear h1
            go_wp2_with fail
            go_roundg (m + 1 - (i + 1))
            case measure => omega
            case rel => exact ⟨i + 1, rfl, by go_num, by omega, by rw [HX.out]; exact blk_alloc HB.out _, KP.out.alloc _⟩
        · obtain rfl : i = m := by omega
          have hd0 : ¬ (i : Int) < (i : Int) := by omega
          have B0r := KP.out.blk B05.out (fun e => NE.out.1 e.symm)
          have b00 := blk_cell B0r 0
          have b01 := blk_cell B0r 1
          have b02 := blk_cell B0r 2
          have b0f : ∀ o, wr.frozen? ⟨b0, o, none⟩ = false := fun o => blk_free B0r o
          have hs0 := fun v => box_set (i := 0) B0r (by decide) v
          have hs1 := fun v0 v => box_set (i := 1) (blk_set B0r 0 v0) (by simp) v
          have hs2 := fun v0 v1 v => box_set (i := 2) (blk_set (blk_set B0r 0 v0) 1 v1) (by simp) v
          have HE := Lib.hid (show to0 Z.T Z.fr Z.s0 = t by rw [HT.out, HM.out, List.take_length, HWS.out]; rfl)
          have KE := Lib.hid (show Kp No w (((wr.setCell ⟨b0, 0, none⟩ (.int .i64 (Z.fr : Int))).setCell ⟨b0, 1, none⟩ (.int .i64 Z.s0)).setCell ⟨b0, 2, none⟩ (.int .i64 t)) from (K5.out.trans' KP.out (fun j hj e => by have e : j = b3 := e; have := NE.out.2; omega)).trans' ((((Kp.refl (fun j => j = b0) wr).setCell (p := ⟨b0, 0, none⟩) (fun _ => rfl) _).setCell (p := ⟨b0, 1, none⟩) (fun _ => rfl) _).setCell (p := ⟨b0, 2, none⟩) (fun _ => rfl) _) (fun j hj e => by have e : j = b0 := e; have := HB0.out; omega))
          clear hlt B0r
          go_wp2_with fail
          exact bodyPost_ret (v := .agg #[.int .i64 (Z.fr : Int), .int .i64 Z.s0, .int .i64 t]) (by simp [results, Tryd.results46, go_sem, hs0, hs1, hs2]) rfl ⟨by unfold fstS Sty.val; rw [HE.out], KE.out⟩
end Go.Proofs.YtgdokpfepfmbmaaDoor

namespace Go.Proofs.YtgdokpfepfmbmaaDoor
set_option linter.unusedVariables false
set_option linter.unusedSimpArgs false
open Go.RowKit

noncomputable def SeP.st (Z : SeP) (u : Nat) : List Nat := stepsP Z.f Z.fr [] u
theorem st_of (Z : SeP) {u : Nat} (h : ¬ (u ≠ Z.fr ∧ kdS Z.f.s u ≠ 2)) : Z.st u = nearP Z.f u := by
  unfold SeP.st stepsP
  rw [if_neg h]
  simp
theorem st_no (Z : SeP) {u : Nat} (h : u ≠ Z.fr ∧ kdS Z.f.s u ≠ 2) : Z.st u = [] := by
  unfold SeP.st stepsP
  rw [if_pos h]
theorem byW_snoc (x : Sty) (L : Int) (c : Nat) (ws : List (Int × Int)) (i : Nat) (y : Int × Int) (h : ws[i]? = some y) : (ws.take (i + 1)).filterMap (byW x L c) = (ws.take i).filterMap (byW x L c) ++ (byW x L c y).toList := by
  rw [List.take_add_one, h, List.filterMap_append]
  cases hb : byW x L c y <;> simp [hb]
theorem SeC.lane {Z : SeP} {w : World} (h : SeC Z w) {u : Nat} (hu : u < Z.n) : ∃ g o, Z.A2 = some ⟨g, o, none⟩ ∧ w.cell? ⟨g, o + u, none⟩ = some (.bool (decide (kdS Z.f.s u = 2))) := by
  obtain ⟨g, o, e⟩ := h.ln.some_ (by omega)
  have hl := h.ln
  rw [e] at hl
  refine ⟨g, o, e, hl.one BoK1 ?_⟩
  rw [lnB_get hu]
  congr 1
  rw [decide_eq_decide]
  exact ⟨fun a => a.2, fun a => ⟨hu, a⟩⟩
theorem SeC.near {Z : SeP} {w : World} (h : SeC Z w) {u : Nat} (hu : u < Z.n) : ∃ g o v, Z.A1 = some ⟨g, o, none⟩ ∧ Z.Vs[u]? = some v ∧ w.cell? ⟨g, o + u, none⟩ = some (slv v) ∧ Rd IK w (slv v) (ints (nearP Z.f u)) := by
  obtain ⟨g, o, e⟩ := h.nr.some_ (by omega)
  have hl := h.nr
  rw [e] at hl
  obtain ⟨v, hv⟩ : ∃ v, Z.Vs[u]? = some v := ⟨_, List.getElem?_eq_getElem (by rw [h.len]; exact hu)⟩
  exact ⟨g, o, v, e, hv, hl.one SvK1 hv, (h.rd u v hv).1⟩
set_option maxHeartbeats 2000000 in
set_option maxRecDepth 100000 in
theorem spbeyond_any {Z : SeP} {last : Int} {U : Int → List Sty} {F : Nat → Prop} {w : World} (hc : SeC Z w) (hv : SeV Z last U F w) (x : Sty) (hx : x.c < Z.n) (hxa : 0 ≤ x.a ∧ x.a ≤ 2097152) :
    Calls Tryd.prog 73 #[.pointer (some ⟨Z.p, 0, none⟩), x.val] w fun e w' => ∃ v, e = .returned v ∧ NewS SyK 100 w w' v (byL Z.T Z.st x last) := by
  obtain ⟨N, hN⟩ : ∃ N, N = byL Z.T Z.st x last := ⟨_, rfl⟩
  rw [← hN]
  have HN := Lib.hid hN
  obtain ⟨w1, hw1⟩ : ∃ y : World, y = w.alloc (.cells #[.int .i64 (x.c : Int), .int .i64 x.a, .int .i64 x.b] 100) := ⟨_, rfl⟩
  have K1 := Lib.hid (show Kp No w w1 by rw [hw1]; exact (Kp.refl _ _).alloc _)
  obtain ⟨bx, hbx⟩ : ∃ b, b = w.heap.size := ⟨_, rfl⟩
  have X1 := Lib.hid (show w1.heap[bx]? = some (.cells #[.int .i64 (x.c : Int), .int .i64 x.a, .int .i64 x.b] 100 (0, 0)) by rw [hw1, hbx]; exact blk_new w _)
  have C1 := Lib.hid (hc.no K1.out)
  have V1 := Lib.hid (hv.no K1.out)
  have HW1 := Lib.hid hw1; have HBX := Lib.hid hbx
  obtain ⟨gl, ol, el, hln⟩ := C1.out.lane hx
  obtain ⟨gn, on_, vn, en, hvn, hnc, hnr⟩ := C1.out.near hx
  obtain ⟨An, ln0, qn⟩ := vn
  have hll : ln0 = (nearP Z.f x.c).length := by
    obtain ⟨A', c', e⟩ := hnr.shape
    unfold slv at e
    simp only [Value.slice.injEq] at e
    rw [e.2.1, ints_len]
  have HLL := Lib.hid hll
  have hl4 : ln0 ≤ 4 := by rw [hll]; exact near_len4 _ _
  have hnr2 := Lib.hid hnr
  unfold slv at hnc hnr2
  have c0 := V1.out.c0; have c1 := V1.out.c1; have c4 := V1.out.c4
  have hb0 := blk_cell X1.out 0
  have hb1 := blk_cell X1.out 1
  have hb2 := blk_cell X1.out 2
  rw [el] at c1
  rw [en] at c0
  obtain ⟨lb, hlb⟩ : ∃ b, decide (kdS Z.f.s x.c = 2) = b := ⟨_, rfl⟩
  rw [hlb] at hln
  obtain ⟨ne, hne⟩ : ∃ b, ((x.c : Int) != (Z.fr : Int)) = b := ⟨_, rfl⟩
  have hxn : (x.c : Int) < (Z.n : Int) := by omega
  have hx0 : (0 : Int) ≤ (x.c : Int) := by omega
  have HLB := Lib.hid hlb; have HNE := Lib.hid hne
  unfold Sty.val
  have HXA := Lib.hid hxa
  clear hc hv hN hw1 hbx hll hnr hvn hlb el en hx hxa
  by_cases hret : ne = true ∧ lb = false
  · obtain ⟨rfl, rfl⟩ := hret
    have HE := Lib.hid (show N = [] by
      rw [HN.out]
      unfold byL
      rw [st_no Z ⟨fun e => by have := HNE.out; rw [e] at this; simp at this, by have := HLB.out; simpa using this⟩]
      rfl)
    go_enter Tryd.func73, Tryd.ntmps73
    go_wp2_with fail
    rw [← HW1.out, ← HBX.out]
    go_quiet (fail)
    go_wp2_with fail
    go_ret
    exact ⟨_, rfl, by rw [HE.out]; exact ⟨Own.nil _ _ _, by simp [Value.ownBlock], K1.out.drewN _⟩⟩
  · have hg : ne = false ∨ (ne = true ∧ lb = true) := by
      cases ne <;> cases lb <;> simp at hret ⊢
    have HST := Lib.hid (show Z.st x.c = nearP Z.f x.c by
      refine st_of Z ?_
      rintro ⟨a, b⟩
      have h1 : ((x.c : Int) != (Z.fr : Int)) = true := by simp; omega
      have h2 : decide (kdS Z.f.s x.c = 2) = false := by simpa using b
      rw [HNE.out] at h1
      rw [HLB.out] at h2
      exact hret ⟨h1, h2⟩)
    have C14 := Lib.hid (And.intro c0 c4)
    obtain ⟨ws, hws⟩ : ∃ g : Int → List (Int × Int), g = fun c => freeL (Z.T c) := ⟨_, rfl⟩
    have HWS := Lib.hid hws
    have FR := Lib.hid (fun wx (hk : Kp No w1 wx) c => (C1.out.no hk).free c)
    have FW := Lib.hid (fun c => show (∀ y ∈ freeL (Z.T c), 0 ≤ y.1 ∧ y.1 < y.2 ∧ y.2 ≤ 1048576) ∧ (freeL (Z.T c)).length ≤ 4097 from ⟨(free_ord (C1.out.wf c)).1, by have := freeL_len (Z.T c); have := (C1.out.wf c).len; omega⟩)
    have XK := Lib.hid (fun wx (hk : Kp No w1 wx) => show wx.cell? ⟨bx, 0, none⟩ = some (.int .i64 (x.c : Int)) ∧ wx.cell? ⟨bx, 1, none⟩ = some (.int .i64 x.a) ∧ wx.cell? ⟨bx, 2, none⟩ = some (.int .i64 x.b) from ⟨blk_cell (hk.blk X1.out (no_no _)) 0, blk_cell (hk.blk X1.out (no_no _)) 1, blk_cell (hk.blk X1.out (no_no _)) 2⟩)
    have VK := Lib.hid (fun wx (hk : Kp No w1 wx) => show wx.cell? ⟨Z.p, 2, none⟩ = some (.func (.func 67) #[.pointer (some ⟨Z.bt, 0, none⟩)] #[]) ∧ wx.cell? ⟨Z.p, 6, none⟩ = some (.int .i64 last) from ⟨(V1.out.no hk).c2, (V1.out.no hk).c6⟩)
    have NK := Lib.hid (fun wx (hk : Kp No w1 wx) => show wx.cell? ⟨gn, on_ + x.c, none⟩ = some (.slice An ln0 qn) ∧ wx.cell? ⟨Z.p, 0, none⟩ = some (.slice (some ⟨gn, on_, none⟩) Z.n Z.q1) from ⟨hk.cellS hnc (no_no _), hk.cellS c0 (no_no _)⟩)
    clear hws hret
    go_enter Tryd.func73, Tryd.ntmps73
    go_upto_region 1 with fail
    rw [← HW1.out, ← HBX.out]
    go_cut [11, 12, 13, 14, 15, 16, 17, 18, 19, 20, 21, 22, 23, 24, 25, 26, 27, 28] (fun _ _ _ _ _ _ _ _ _ _ _ _ _ _ _ _ _ v28 wx => v28 = .bool false ∧ Kp No w1 wx)
    case first =>
      rcases hg with rfl | ⟨rfl, rfl⟩
      all_goals
        go_quiet (fail)
        go_wp2_with fail
        go_meet
        exact ⟨rfl, (Kp.refl No w1).drewN _⟩
    case rest =>
      obtain ⟨rfl, k2⟩ := hcut
      obtain ⟨w2, hw2⟩ : ∃ y : World, y = wc := ⟨_, rfl⟩
      rw [← hw2] at k2 ⊢
      have K2 := Lib.hid k2
      clear hw2 k2 c0 c1 c4 hb0 hb1 hb2 hln hnc
      obtain ⟨hb0, hb1, hb2⟩ := XK.out w2 K2.out
      obtain ⟨n1, n2⟩ := NK.out w2 K2.out
      go_upto_region 4 with fail
      go_cut [29, 30, 31, 32, 33, 34, 35, 36, 37, 38] (fun _ _ _ _ _ _ _ v36 v37 v38 wx => v36 = .slice An ln0 qn ∧ v37 = .int .i64 (ln0 : Int) ∧ v38 = .int .i64 0 ∧ Kp No w1 wx)
      case first =>
        go_quiet (fail)
        go_wp2_with fail
        go_meet
        exact ⟨rfl, rfl, rfl, K2.out.drewN _⟩
      case rest =>
        obtain ⟨rfl, rfl, rfl, k3⟩ := hcut
        obtain ⟨w3, hw3⟩ : ∃ y : World, y = wc := ⟨_, rfl⟩
        rw [← hw3] at k3 ⊢
        have K3 := Lib.hid k3
        clear hw3 k3 hb0 hb1 hb2 n1 n2
        obtain ⟨NL, hNL⟩ : ∃ l, l = nearP Z.f x.c := ⟨_, rfl⟩
        have HNL := Lib.hid hNL
        have RN := Lib.hid (show Rd IK w3 (.slice An ln0 qn) (ints NL) by rw [hNL]; exact hnr2.out.kpNo K3.out)
        have HL0 := Lib.hid (show ln0 = NL.length by rw [hNL]; exact HLL.out)
        clear hNL HLL
        go_wp2_with fail
        go_loopg [38, 5] (ln0 + 1) (fun g_ iv ov wx => ∃ j : Nat, g_ = ln0 + 1 - j ∧ iv = .int .i64 j ∧ j ≤ ln0 ∧ NewS SyK 100 w3 wx ov ((NL.take j).flatMap (byC Z.T x last)) ∧ ((NL.take j).flatMap (byC Z.T x last)).length ≤ 4097 * j)
        case atStart => exact ⟨0, rfl, rfl, by omega, by simpa using NewS.nil SyK 100 w3, by simp⟩
        case round =>
          obtain ⟨j, hg_, rfl, hj, ns, hlen⟩ := hrel
          have NS := Lib.hid ns; have HLE := Lib.hid hlen
          obtain ⟨Ao, qo, hov⟩ := ns.own.rd.shape
          obtain ⟨lo, hlo⟩ : ∃ l, l = ((NL.take j).flatMap (byC Z.T x last)).length := ⟨_, rfl⟩
          rw [← hlo] at hov
          subst hov
          clear ns hlen
          by_cases hlt : j < ln0
          · have hltI : (j : Int) < (ln0 : Int) := by omega
            have hwj : IntKind.i64.wrap ((j : Int) + 1) = (j : Int) + 1 := IntWalk.i64_in _ (by omega)
            obtain ⟨c, hc⟩ : ∃ c, NL[j]? = some c := ⟨_, List.getElem?_eq_getElem (by rw [← HL0.out]; exact hlt)⟩
            rcases (RN.out.kpNo NS.out.kp) with ⟨_, he⟩ | ⟨g, o, cap', hv, _⟩
            · have := congrArg List.length he; rw [ints_len, ← HL0.out] at this; simp at this; omega
            simp only [Value.slice.injEq] at hv
            obtain ⟨rfl, hzz, rfl⟩ := hv
            have hcc : wr.cell? ⟨g, o + j, none⟩ = some (.int .i64 (c : Int)) := (RN.out.kpNo NS.out.kp).intAt (ints_get hc)
            have KR := Lib.hid (K3.out.no NS.out.kp)
            obtain ⟨v2, v6⟩ := VK.out wr KR.out
            have F1 := Lib.hid (FR.out wr KR.out (c : Int))
            have HC := Lib.hid (show (NL.take (j + 1)).flatMap (byC Z.T x last) = (NL.take j).flatMap (byC Z.T x last) ++ (freeL (Z.T c)).filterMap (byW x last c) by
              rw [List.take_add_one, hc, List.flatMap_append]; simp [byC])
            have FWC := FW.out (c : Int)
            obtain ⟨wl, hwl⟩ : ∃ l, l = freeL (Z.T (c : Int)) := ⟨_, rfl⟩
            rw [← hwl] at F1 FWC HC
            have FWC := Lib.hid FWC
            obtain ⟨O1, hO1⟩ : ∃ l, l = (NL.take j).flatMap (byC Z.T x last) := ⟨_, rfl⟩
            rw [← hO1] at NS HLE HC hlo
            have HWL := Lib.hid hwl
            have HLO := Lib.hid hlo
            clear hc hzz hlt hlo hO1 hwl
            go_wp2_with fail
            refine F1.out.mono ?_
            rintro e w4 ⟨v4, rfl, o4, k4, g4⟩
            obtain ⟨A4, q4, rfl⟩ := o4.rd.shape
            obtain ⟨m, hm⟩ : ∃ m, m = wl.length := ⟨_, rfl⟩
            rw [← hm] at o4 FWC g4 ⊢
            have R4 := Lib.hid o4.rd
            have NS4 := Lib.hid (NS.out.kpNo k4)
            have HM := Lib.hid hm
            have G4W := Lib.hid (show ∀ g, (Value.slice A4 m q4).ownBlock = some g → g < w4.heap.size ∧ (Value.slice Ao lo qo).ownBlock ≠ some g from fun g hg => ⟨o4.lt hg, fun e => by
              have h1 := g4 g hg
              have h2 := NS.out.own.lt e
              omega⟩)
            have hm2 := FWC.out.2
            clear o4 k4 hm v2 v6 hcc g4
            go_wp2_with fail
            go_loopg [49, 5] (m + 1) (fun g_ iv ov wx => ∃ i : Nat, g_ = m + 1 - i ∧ iv = .int .i64 i ∧ i ≤ m ∧ NewS SyK 100 w3 wx ov (O1 ++ (wl.take i).filterMap (byW x last c)) ∧ (O1 ++ (wl.take i).filterMap (byW x last c)).length ≤ 4097 * j + i ∧ Rd WK wx (.slice A4 m q4) wl ∧ ∀ g, (Value.slice A4 m q4).ownBlock = some g → g < wx.heap.size ∧ ov.ownBlock ≠ some g)
            case atStart => exact ⟨0, rfl, rfl, by omega, by simpa using NS4.out, by simpa using HLE.out, R4.out, G4W.out⟩
            case round =>
              obtain ⟨i, hg_, rfl, hi, ns, hlen, rw_, nb⟩ := hrel
              have NI := Lib.hid ns; have HLI := Lib.hid hlen; have RW := Lib.hid rw_; have NB := Lib.hid nb
              obtain ⟨Ao, qo, hov⟩ := ns.own.rd.shape
              obtain ⟨lo, hlo⟩ : ∃ l, l = (O1 ++ (wl.take i).filterMap (byW x last c)).length := ⟨_, rfl⟩
              rw [← hlo] at hov
              subst hov
              clear ns hlen rw_ nb
              by_cases hlt : i < m
              · have hltI : (i : Int) < (m : Int) := by omega
                have hwi : IntKind.i64.wrap ((i : Int) + 1) = (i : Int) + 1 := IntWalk.i64_in _ (by omega)
                obtain ⟨y, hy⟩ : ∃ y, wl[i]? = some y := ⟨_, List.getElem?_eq_getElem (by rw [← HM.out]; exact hlt)⟩
                rcases RW.out with ⟨_, he⟩ | ⟨g, o, cap', hv, _⟩
                · have := congrArg List.length he; rw [← HM.out] at this; simp at this; omega
                simp only [Value.slice.injEq] at hv
                obtain ⟨rfl, hzz, rfl⟩ := hv
                obtain ⟨y1, y2⟩ := RW.out.winAt hy
                have KR := Lib.hid (K3.out.no NI.out.kp)
                have hb1 := fun o => (XK.out (wr.alloc o) (KR.out.alloc o)).2.1
                have hb2 := fun o => (XK.out (wr.alloc o) (KR.out.alloc o)).2.2
                have v6 := fun o => (VK.out (wr.alloc o) (KR.out.alloc o)).2
                have hwa : IntKind.i64.wrap (x.a + 1) = x.a + 1 := IntWalk.i64_in _ (by have := HXA.out; omega)
                have YB := Lib.hid (FWC.out.1 y (List.mem_of_getElem? hy))
                have HS := Lib.hid (byW_snoc x last c wl i y hy)
                clear hzz hy hlt
                obtain ⟨M, hM⟩ : ∃ M, M = max (x.a + 1) y.1 := ⟨_, rfl⟩
                have HMM := Lib.hid hM
                go_upto_region 11 with fail
                rw [← hM]
                have hwb : byW x last c y = if M ≤ x.b ∧ M < y.2 ∧ M ≤ last then some ⟨c, M, y.2⟩ else none := by unfold byW; rw [hM]
                have HWB := Lib.hid hwb
                have HLO := Lib.hid hlo
                clear hM hwb hlo
                by_cases h1 : M ≤ x.b
                · have d1 : decide (M ≤ x.b) = true := by simpa using h1
                  by_cases h2 : M < y.2
                  · have d2 : decide (M < y.2) = true := by simpa using h2
                    by_cases h3 : M ≤ last
                    · have d3 : decide (M ≤ last) = true := by simpa using h3
                      have HY := Lib.hid (show O1 ++ (wl.take (i + 1)).filterMap (byW x last c) = O1 ++ ((wl.take i).filterMap (byW x last c) ++ [⟨c, M, y.2⟩]) by rw [HS.out, HWB.out, if_pos ⟨h1, h2, h3⟩]; rfl)
                      have hlob : lo ≤ 4097 * 4 + 4097 := by have := HLI.out; rw [← HLO.out] at this; have := FWC.out.2; omega
                      clear h1 h2 h3
                      go_wp2_with (at_builtin; refine wpl_append elSy rfl (.tmp 77) (.tmp 83) rfl rfl rfl (v := .slice Ao lo qo) (l := O1 ++ (wl.take i).filterMap (byW x last c)) (m := [⟨c, M, y.2⟩]) ?c1 ?c2 ?c3 ?c4 ?c5)
                      case c1 => exact (NI.out.own.alloc _).alloc _
                      case c2 => exact Rd.litAt SyK 100 _ _ [⟨c, M, y.2⟩] rfl (by unfold maxLen; simp) _ _ (by simp) rfl
                      case c3 => rw [← HLO.out, List.length_singleton]; unfold maxLen; omega
                      case c4 => rw [← HLO.out, List.length_singleton]; omega
                      case c5 =>
                        intro v' w' k1 k2 k3
                        have kk := ((Kp.refl No wr).alloc (.cells #[.int .i64 y.1, .int .i64 y.2] 43)).alloc (.cells #[.int .i64 (c : Int), .int .i64 M, .int .i64 y.2] 100)
                        have n5 : NewS SyK 100 w3 w' v' (O1 ++ (wl.take (i + 1)).filterMap (byW x last c)) := by rw [HY.out]; exact NI.out.app kk k1 k2 k3 (by omega)
                        have r5 := (RW.out.kpNo kk).kp k2 (fun g hg e => (NB.out g hg).2 e)
                        have nb5 : ∀ gg, (Value.slice (some ⟨g, o, none⟩) m q4).ownBlock = some gg → gg < w'.heap.size ∧ v'.ownBlock ≠ some gg := fun gg hg => by
                          have h1 := (NB.out gg hg).1
                          have h2 := kk.size
                          have h3 := k2.size
                          refine ⟨by omega, fun e => ?_⟩
                          rcases k3 gg e with e2 | e2
                          · exact (NB.out gg hg).2 e2
                          · have e3 : wr.heap.size + 1 + 1 ≤ gg := by simpa using e2
                            omega
                        have N5 := Lib.hid n5; have R5 := Lib.hid r5; have NB5 := Lib.hid nb5
                        obtain ⟨A5, q5, rfl⟩ := k1.rd.shape
                        clear k1 k2 k3 kk n5 r5 nb5 y1 y2
                        go_wp2_with fail
                        go_roundg (m + 1 - (i + 1))
                        case measure => omega
                        case rel => exact ⟨i + 1, rfl, by go_num, by omega, N5.out, by rw [HY.out, ← List.append_assoc, List.length_append, List.length_singleton]; have := HLI.out; omega, R5.out, NB5.out⟩
                    · have d : decide (M ≤ last) = false := by simpa using h3
                      have HY := Lib.hid (show O1 ++ (wl.take (i + 1)).filterMap (byW x last c) = O1 ++ (wl.take i).filterMap (byW x last c) by rw [HS.out, HWB.out, if_neg (fun e => h3 e.2.2)]; simp)
                      clear h3
                      go_wp2_with fail
                      go_roundg (m + 1 - (i + 1))
                      case measure => omega
                      case rel => exact ⟨i + 1, rfl, by go_num, by omega, by rw [HY.out]; exact NI.out.alloc _, by rw [HY.out]; have := HLI.out; omega, RW.out.alloc _, fun g hg => ⟨by have := (NB.out g hg).1; simp; omega, (NB.out g hg).2⟩⟩
                  · have d : decide (M < y.2) = false := by simpa using h2
                    have HY := Lib.hid (show O1 ++ (wl.take (i + 1)).filterMap (byW x last c) = O1 ++ (wl.take i).filterMap (byW x last c) by rw [HS.out, HWB.out, if_neg (fun e => h2 e.2.1)]; simp)
                    clear h2
                    go_wp2_with fail
                    go_roundg (m + 1 - (i + 1))
                    case measure => omega
                    case rel => exact ⟨i + 1, rfl, by go_num, by omega, by rw [HY.out]; exact NI.out.alloc _, by rw [HY.out]; have := HLI.out; omega, RW.out.alloc _, fun g hg => ⟨by have := (NB.out g hg).1; simp; omega, (NB.out g hg).2⟩⟩
                · have d : decide (M ≤ x.b) = false := by simpa using h1
                  have HY := Lib.hid (show O1 ++ (wl.take (i + 1)).filterMap (byW x last c) = O1 ++ (wl.take i).filterMap (byW x last c) by rw [HS.out, HWB.out, if_neg (fun e => h1 e.1)]; simp)
                  clear h1
                  go_wp2_with fail
                  go_roundg (m + 1 - (i + 1))
                  case measure => omega
                  case rel => exact ⟨i + 1, rfl, by go_num, by omega, by rw [HY.out]; exact NI.out.alloc _, by rw [HY.out]; have := HLI.out; omega, RW.out.alloc _, fun g hg => ⟨by have := (NB.out g hg).1; simp; omega, (NB.out g hg).2⟩⟩
              · obtain rfl : i = m := by omega
                have hd0 : ¬ (i : Int) < (i : Int) := by omega
                have HEQ := Lib.hid (show (NL.take (j + 1)).flatMap (byC Z.T x last) = O1 ++ (wl.take i).filterMap (byW x last c) by rw [HC.out, HM.out, List.take_length])
                have HLO := Lib.hid hlo
                clear hlt hlo
                go_wp2_with fail
                go_roundg (ln0 + 1 - (j + 1))
                case measure => omega
                case rel => exact ⟨j + 1, rfl, by go_num, by omega, by rw [HEQ.out]; exact NI.out, by rw [HEQ.out]; have := HLI.out; have := FWC.out.2; omega⟩
          · obtain rfl : j = ln0 := by omega
            have hd0 : ¬ (j : Int) < (j : Int) := by omega
            have HEQ := Lib.hid (show N = (NL.take j).flatMap (byC Z.T x last) by rw [HN.out, HL0.out, List.take_length, HNL.out, ← HST.out]; rfl)
            clear hlt hlo
            go_wp2_with fail
            go_ret
            exact ⟨_, rfl, by rw [HEQ.out]; exact ⟨NS.out.own, fun g hg => by have := NS.out.ge g hg; have := K3.out.size; have := K1.out.size; omega, K1.out.no (K3.out.no NS.out.kp)⟩⟩
end Go.Proofs.YtgdokpfepfmbmaaDoor

namespace Go.Proofs.YtgdokpfepfmbmaaDoor
set_option linter.unusedVariables false
set_option linter.unusedSimpArgs false
open Go.RowKit

theorem any_snoc {α : Type} (p : α → Bool) (l : List α) (k : Nat) (x : α) (h : l[k]? = some x) : (l.take (k + 1)).any p = ((l.take k).any p || p x) := by
  rw [List.take_add_one, h, List.any_append]; simp
set_option maxRecDepth 100000 in
theorem ifS_K {w : World} {v : Value} {l : List Sty} (hr : Rd SyK w v l) (b : Nat) (p : Sty → Bool)
    (hf : ∀ y ∈ l, ∀ wx, Kp No w wx → Calls Tryd.prog 95 #[y.val, .pointer (some ⟨b, 0, none⟩)] wx fun e w' => e = .returned (.bool (p y)) ∧ Kp No wx w') :
    Calls Tryd.prog 106 #[v, .func (.func 95) #[] #[.pointer (some ⟨b, 0, none⟩)]] w fun e w' => ∃ r : Int, e = .returned (.int .i64 r) ∧ decide (r ≥ 0) = l.any p ∧ Kp No w w' := by
  have hl := hr.lenI
  obtain ⟨A, c, rfl⟩ := hr.shape
  obtain ⟨n, hn⟩ : ∃ n, n = l.length := ⟨_, rfl⟩
  rw [← hn] at hr hl ⊢
  unfold maxLen at hl
  have HR := Lib.hid hr; have HN := Lib.hid hn; have HF := Lib.hid hf
  clear hr hn hf
  go_enter Tryd.func106, Tryd.ntmps106
  go_wp2_with fail
  go_loopg [8] (n + 1) (fun g_ iv wx => ∃ i : Nat, g_ = n + 1 - i ∧ iv = .int .i64 i ∧ i ≤ n ∧ (l.take i).any p = false ∧ Kp No w wx)
  case atStart => exact ⟨0, rfl, rfl, by omega, by simp, Kp.refl _ _⟩
  case round =>
    obtain ⟨i, hg, rfl, hi, hno, kp⟩ := hrel
    have NO := Lib.hid hno; have KP := Lib.hid kp
    clear hno kp
    by_cases hlt : i < n
    · have hltI : (i : Int) < (n : Int) := by omega
      have hwi : IntKind.i64.wrap ((i : Int) + 1) = (i : Int) + 1 := IntWalk.i64_in _ (by omega)
      obtain ⟨y, hy⟩ : ∃ y, l[i]? = some y := ⟨_, List.getElem?_eq_getElem (by rw [← HN.out]; exact hlt)⟩
      rcases HR.out with ⟨_, he⟩ | ⟨g, o, cap', hv, _⟩
      · have := HN.out; rw [he, List.length_nil] at this; omega
      simp only [Value.slice.injEq] at hv
      obtain ⟨rfl, hzz, rfl⟩ := hv
      obtain ⟨y0, y1, y2⟩ := (HR.out.kpNo KP.out).styAt hy
      have CF := Lib.hid (HF.out y (List.mem_of_getElem? hy) wr KP.out)
      have HY := Lib.hid hy
      unfold Sty.val at CF
      obtain ⟨t, ht⟩ : ∃ t, p y = t := ⟨_, rfl⟩
      rw [ht] at CF
      have HT := Lib.hid ht
      clear hzz hy hlt ht
      go_wp2_with fail
      refine CF.out.mono ?_
      rintro e w1 ⟨rfl, k1⟩
      have K1 := Lib.hid (KP.out.no k1)
      clear k1
      cases t with
      | true =>
        go_wp2_with fail
        go_ret
        refine ⟨_, rfl, ?_, K1.out⟩
        have h1 : l.any p = true := List.any_eq_true.2 ⟨y, List.mem_of_getElem? HY.out, HT.out⟩
        rw [h1]; simp
      | false =>
        have NO2 := Lib.hid (show (l.take (i + 1)).any p = false by rw [any_snoc p l i y HY.out, NO.out, HT.out]; rfl)
        go_wp2_with fail
        go_roundg (n + 1 - (i + 1))
        case measure => omega
        case rel => exact ⟨i + 1, rfl, by go_num, by omega, NO2.out, K1.out⟩
    · obtain rfl : i = n := by omega
      have hd0 : ¬ (i : Int) < (i : Int) := by omega
      have HE := Lib.hid (show l.any p = false by have := NO.out; rwa [HN.out, List.take_length] at this)
      clear hlt
      go_wp2_with fail
      go_ret
      exact ⟨_, rfl, by rw [HE.out]; rfl, KP.out⟩
theorem cfS_K {w : World} {v : Value} {l : List Sty} (hr : Rd SyK w v l) (b : Nat) (p : Sty → Bool)
    (hf : ∀ y ∈ l, ∀ wx, Kp No w wx → Calls Tryd.prog 95 #[y.val, .pointer (some ⟨b, 0, none⟩)] wx fun e w' => e = .returned (.bool (p y)) ∧ Kp No wx w') (t : Bool) (ht : l.any p = t) :
    Calls Tryd.prog 94 #[v, .func (.func 95) #[] #[.pointer (some ⟨b, 0, none⟩)]] w fun e w' => e = .returned (.bool t) ∧ Kp No w w' := by
  have IF := Lib.hid (ifS_K hr b p hf)
  have HT := Lib.hid ht
  obtain ⟨A, c, rfl⟩ := hr.shape
  obtain ⟨n, hn⟩ : ∃ n, n = l.length := ⟨_, rfl⟩
  rw [← hn] at IF ⊢
  clear hr hf hn ht
  go_enter Tryd.func94, Tryd.ntmps94
  go_wp2_with fail
  refine IF.out.mono ?_
  rintro e w1 ⟨r, rfl, h1, k1⟩
  rw [HT.out] at h1
  have K1 := Lib.hid k1
  clear k1
  go_wp2_with fail
  go_ret
  exact ⟨by simp, K1.out⟩
set_option maxRecDepth 100000 in
theorem ifS_C {w : World} {v : Value} {l : List Sty} (hr : Rd SyK w v l) (b : Nat) (p : Sty → Bool)
    (hf : ∀ y ∈ l, ∀ wx, Kp No w wx → Calls Tryd.prog 97 #[y.val, .pointer (some ⟨b, 0, none⟩)] wx fun e w' => e = .returned (.bool (p y)) ∧ Kp No wx w') :
    Calls Tryd.prog 106 #[v, .func (.func 97) #[] #[.pointer (some ⟨b, 0, none⟩)]] w fun e w' => ∃ r : Int, e = .returned (.int .i64 r) ∧ decide (r ≥ 0) = l.any p ∧ Kp No w w' := by
  have hl := hr.lenI
  obtain ⟨A, c, rfl⟩ := hr.shape
  obtain ⟨n, hn⟩ : ∃ n, n = l.length := ⟨_, rfl⟩
  rw [← hn] at hr hl ⊢
  unfold maxLen at hl
  have HR := Lib.hid hr; have HN := Lib.hid hn; have HF := Lib.hid hf
  clear hr hn hf
  go_enter Tryd.func106, Tryd.ntmps106
  go_wp2_with fail
  go_loopg [8] (n + 1) (fun g_ iv wx => ∃ i : Nat, g_ = n + 1 - i ∧ iv = .int .i64 i ∧ i ≤ n ∧ (l.take i).any p = false ∧ Kp No w wx)
  case atStart => exact ⟨0, rfl, rfl, by omega, by simp, Kp.refl _ _⟩
  case round =>
    obtain ⟨i, hg, rfl, hi, hno, kp⟩ := hrel
    have NO := Lib.hid hno; have KP := Lib.hid kp
    clear hno kp
    by_cases hlt : i < n
    · have hltI : (i : Int) < (n : Int) := by omega
      have hwi : IntKind.i64.wrap ((i : Int) + 1) = (i : Int) + 1 := IntWalk.i64_in _ (by omega)
      obtain ⟨y, hy⟩ : ∃ y, l[i]? = some y := ⟨_, List.getElem?_eq_getElem (by rw [← HN.out]; exact hlt)⟩
      rcases HR.out with ⟨_, he⟩ | ⟨g, o, cap', hv, _⟩
      · have := HN.out; rw [he, List.length_nil] at this; omega
      simp only [Value.slice.injEq] at hv
      obtain ⟨rfl, hzz, rfl⟩ := hv
      obtain ⟨y0, y1, y2⟩ := (HR.out.kpNo KP.out).styAt hy
      have CF := Lib.hid (HF.out y (List.mem_of_getElem? hy) wr KP.out)
      have HY := Lib.hid hy
      unfold Sty.val at CF
      obtain ⟨t, ht⟩ : ∃ t, p y = t := ⟨_, rfl⟩
      rw [ht] at CF
      have HT := Lib.hid ht
      clear hzz hy hlt ht
      go_wp2_with fail
      refine CF.out.mono ?_
      rintro e w1 ⟨rfl, k1⟩
      have K1 := Lib.hid (KP.out.no k1)
      clear k1
      cases t with
      | true =>
        go_wp2_with fail
        go_ret
        refine ⟨_, rfl, ?_, K1.out⟩
        have h1 : l.any p = true := List.any_eq_true.2 ⟨y, List.mem_of_getElem? HY.out, HT.out⟩
        rw [h1]; simp
      | false =>
        have NO2 := Lib.hid (show (l.take (i + 1)).any p = false by rw [any_snoc p l i y HY.out, NO.out, HT.out]; rfl)
        go_wp2_with fail
        go_roundg (n + 1 - (i + 1))
        case measure => omega
        case rel => exact ⟨i + 1, rfl, by go_num, by omega, NO2.out, K1.out⟩
    · obtain rfl : i = n := by omega
      have hd0 : ¬ (i : Int) < (i : Int) := by omega
      have HE := Lib.hid (show l.any p = false by have := NO.out; rwa [HN.out, List.take_length] at this)
      clear hlt
      go_wp2_with fail
      go_ret
      exact ⟨_, rfl, by rw [HE.out]; rfl, KP.out⟩
theorem cfS_C {w : World} {v : Value} {l : List Sty} (hr : Rd SyK w v l) (b : Nat) (p : Sty → Bool)
    (hf : ∀ y ∈ l, ∀ wx, Kp No w wx → Calls Tryd.prog 97 #[y.val, .pointer (some ⟨b, 0, none⟩)] wx fun e w' => e = .returned (.bool (p y)) ∧ Kp No wx w') (t : Bool) (ht : l.any p = t) :
    Calls Tryd.prog 94 #[v, .func (.func 97) #[] #[.pointer (some ⟨b, 0, none⟩)]] w fun e w' => e = .returned (.bool t) ∧ Kp No w w' := by
  have IF := Lib.hid (ifS_C hr b p hf)
  have HT := Lib.hid ht
  obtain ⟨A, c, rfl⟩ := hr.shape
  obtain ⟨n, hn⟩ : ∃ n, n = l.length := ⟨_, rfl⟩
  rw [← hn] at IF ⊢
  clear hr hf hn ht
  go_enter Tryd.func94, Tryd.ntmps94
  go_wp2_with fail
  refine IF.out.mono ?_
  rintro e w1 ⟨r, rfl, h1, k1⟩
  rw [HT.out] at h1
  have K1 := Lib.hid k1
  clear k1
  go_wp2_with fail
  go_ret
  exact ⟨by simp, K1.out⟩
def knB (x y : Sty) : Bool := decide (y.b = x.b) && decide (y.a ≤ x.a)
set_option maxRecDepth 100000 in
theorem spknownL_any (x y : Sty) (b : Nat) (w : World) (h : w.heap[b]? = some (.cells #[.int .i64 (x.c : Int), .int .i64 x.a, .int .i64 x.b] 100 (0, 0))) :
    Calls Tryd.prog 95 #[y.val, .pointer (some ⟨b, 0, none⟩)] w fun e w' => e = .returned (.bool (knB x y)) ∧ Kp No w w' := by
  have b1 := fun o => blk_cell (blk_alloc h o) 1
  have b2 := fun o => blk_cell (blk_alloc h o) 2
  obtain ⟨d1, h1⟩ : ∃ d, (y.b == x.b) = d := ⟨_, rfl⟩
  obtain ⟨d2, h2⟩ : ∃ d, decide (y.a ≤ x.a) = d := ⟨_, rfl⟩
  have HE := Lib.hid (show knB x y = (d1 && d2) by
    unfold knB
    rw [h2, ← h1]
    rfl)
  obtain ⟨r, hr⟩ : ∃ r, knB x y = r := ⟨_, rfl⟩
  rw [hr] at HE ⊢
  unfold Sty.val
  clear h hr
  cases d1 with
  | true =>
    go_enter Tryd.func95, Tryd.ntmps95
    go_wp2_with fail
    go_ret
    exact ⟨by rw [HE.out]; rfl, (Kp.refl _ _).alloc _⟩
  | false =>
    go_enter Tryd.func95, Tryd.ntmps95
    go_wp2_with fail
    go_ret
    exact ⟨by rw [HE.out]; rfl, (Kp.refl _ _).alloc _⟩
def inM (m : Int) (y : Sty) : Bool := decide (y.a ≤ m) && decide (m < y.b)
set_option maxRecDepth 100000 in
theorem spcanL_any (m : Int) (y : Sty) (b : Nat) (w : World) (h : w.heap[b]? = some (.cells #[.int .i64 m] 3 (0, 0))) :
    Calls Tryd.prog 97 #[y.val, .pointer (some ⟨b, 0, none⟩)] w fun e w' => e = .returned (.bool (inM m y)) ∧ Kp No w w' := by
  have b1 := fun o => blk_cell (blk_alloc h o) 0
  obtain ⟨d1, h1⟩ : ∃ d, decide (y.a ≤ m) = d := ⟨_, rfl⟩
  obtain ⟨d2, h2⟩ : ∃ d, decide (m < y.b) = d := ⟨_, rfl⟩
  have HE := Lib.hid (show inM m y = (d1 && d2) by unfold inM; rw [h2, h1])
  obtain ⟨r, hr⟩ : ∃ r, inM m y = r := ⟨_, rfl⟩
  rw [hr] at HE ⊢
  unfold Sty.val
  clear h hr
  cases d1 with
  | true =>
    go_enter Tryd.func97, Tryd.ntmps97
    go_wp2_with fail
    go_ret
    exact ⟨by rw [HE.out]; rfl, (Kp.refl _ _).alloc _⟩
  | false =>
    go_enter Tryd.func97, Tryd.ntmps97
    go_wp2_with fail
    go_ret
    exact ⟨by rw [HE.out]; rfl, (Kp.refl _ _).alloc _⟩
end Go.Proofs.YtgdokpfepfmbmaaDoor

namespace Go.Proofs.YtgdokpfepfmbmaaDoor
set_option linter.unusedVariables false
set_option linter.unusedSimpArgs false
open Go.RowKit

set_option maxHeartbeats 1000000 in
set_option maxRecDepth 100000 in
theorem spknown_any {Z : SeP} {last : Int} {U : Int → List Sty} {F : Nat → Prop} {w : World} (hv : SeV Z last U F w) (x : Sty) (t : Bool) (ht : (U x.c).any (knB x) = t) :
    Calls Tryd.prog 72 #[.pointer (some ⟨Z.p, 0, none⟩), x.val] w fun e w' => e = .returned (.bool t) ∧ Kp No w w' := by
  obtain ⟨w1, hw1⟩ : ∃ y : World, y = w.alloc (.cells #[.int .i64 (x.c : Int), .int .i64 x.a, .int .i64 x.b] 100) := ⟨_, rfl⟩
  have K1 := Lib.hid (show Kp No w w1 by rw [hw1]; exact (Kp.refl _ _).alloc _)
  obtain ⟨bx, hbx⟩ : ∃ b, b = w.heap.size := ⟨_, rfl⟩
  have X1 := Lib.hid (show w1.heap[bx]? = some (.cells #[.int .i64 (x.c : Int), .int .i64 x.a, .int .i64 x.b] 100 (0, 0)) by rw [hw1, hbx]; exact blk_new w _)
  have V1 := hv.no K1.out
  obtain ⟨v, hl, ho, _, _⟩ := V1.rs.at (x.c : Int)
  have hlook : (Instr.lookup 87 (.map (some Z.ms)) (.int .i64 (x.c : Int)) false).run Tryd.prog w1.drew = .ok v w1.drew := hl _ (Kp.refl No w1).drew
  have CF := Lib.hid (cfS_K (w := w1.drew) (v := v) (l := U x.c) (ho.rd.kpNo (Kp.refl No w1).drew) bx (knB x) (fun y hy wx hk => spknownL_any x y bx wx (((Kp.refl No w1).drew.no hk).blk X1.out (no_no _))) t ht)
  have c7 : w1.drew.cell? ⟨Z.p, 7, none⟩ = some (.map (some Z.ms)) := V1.c7
  have hb0 : w1.drew.cell? ⟨bx, 0, none⟩ = some (.int .i64 (x.c : Int)) := blk_cell X1.out 0
  have HW1 := Lib.hid hw1; have HBX := Lib.hid hbx
  unfold Sty.val
  clear hv hw1 hbx V1 hl ho ht
  go_enter Tryd.func72, Tryd.ntmps72
  go_wp2_with fail
  rw [← HW1.out, ← HBX.out]
  go_region_law (go_simp; go_at_call 94; refine CF.out.mono ?_; rintro e w2 ⟨rfl, k2⟩; have K2 := Lib.hid ((Kp.refl No w1).drew.no k2); clear k2)
  all_goals
    go_wp2_with fail
    go_ret
    exact ⟨rfl, K1.out.no K2.out⟩
set_option maxRecDepth 100000 in
theorem spcan_any {Z : SeP} {last : Int} {U : Int → List Sty} {F : Nat → Prop} {w : World} (hv : SeV Z last U F w) (c m : Int) (t : Bool) (ht : (U c).any (inM m) = t) :
    Calls Tryd.prog 78 #[.pointer (some ⟨Z.p, 0, none⟩), .int .i64 c, .int .i64 m] w fun e w' => e = .returned (.bool t) ∧ Kp No w w' := by
  obtain ⟨w1, hw1⟩ : ∃ y : World, y = w.alloc (.cells #[.int .i64 m] 3) := ⟨_, rfl⟩
  have K1 := Lib.hid (show Kp No w w1 by rw [hw1]; exact (Kp.refl _ _).alloc _)
  obtain ⟨bx, hbx⟩ : ∃ b, b = w.heap.size := ⟨_, rfl⟩
  have X1 := Lib.hid (show w1.heap[bx]? = some (.cells #[.int .i64 m] 3 (0, 0)) by rw [hw1, hbx]; exact blk_new w _)
  have V1 := hv.no K1.out
  obtain ⟨v, hl, ho, _, _⟩ := V1.rs.at c
  have hlook : (Instr.lookup 87 (.map (some Z.ms)) (.int .i64 c) false).run Tryd.prog w1 = .ok v w1 := hl _ (Kp.refl No w1)
  have CF := Lib.hid (cfS_C (w := w1) (v := v) (l := U c) ho.rd bx (inM m) (fun y hy wx hk => spcanL_any m y bx wx (hk.blk X1.out (no_no _))) t ht)
  have c7 : w1.cell? ⟨Z.p, 7, none⟩ = some (.map (some Z.ms)) := V1.c7
  have HW1 := Lib.hid hw1; have HBX := Lib.hid hbx
  clear hv hw1 hbx V1 hl ho ht
  go_enter Tryd.func78, Tryd.ntmps78
  go_upto_region 1 with fail
  rw [← HW1.out, ← HBX.out]
  go_wp2_with fail
  refine CF.out.mono ?_
  rintro e w2 ⟨rfl, k2⟩
  have K2 := Lib.hid k2
  clear k2
  go_wp2_with fail
  go_ret
  exact ⟨rfl, K1.out.no K2.out⟩
set_option maxRecDepth 100000 in
theorem spsoon_any {Z : SeP} {last : Int} {U : Int → List Sty} {F : Nat → Prop} {w : World} (hv : SeV Z last U F w) (c : Int) (r : Int) (hr : mnA (U c) = r) :
    Calls Tryd.prog 41 #[.pointer (some ⟨Z.p, 0, none⟩), .int .i64 c] w fun e w' => e = .returned (.int .i64 r) ∧ Kp No w w' := by
  obtain ⟨v, hl, ho, _, _⟩ := hv.rs.at c
  have hlook : (Instr.lookup 87 (.map (some Z.ms)) (.int .i64 c) false).run Tryd.prog w = .ok v w := hl _ (Kp.refl No w)
  have c7 := hv.c7
  have hln := ho.rd.lenI
  have RD := Lib.hid ho.rd
  obtain ⟨A, q, rfl⟩ := ho.rd.shape
  obtain ⟨l, hle⟩ : ∃ l, l = U c := ⟨_, rfl⟩
  rw [← hle] at RD hln hr hlook ho
  obtain ⟨n, hn⟩ : ∃ n, n = l.length := ⟨_, rfl⟩
  rw [← hn] at RD hln hlook
  unfold maxLen at hln
  have HN := Lib.hid hn; have HR := Lib.hid hr
  clear hv hl ho hle hn hr
  go_enter Tryd.func41, Tryd.ntmps41
  go_wp2_with fail
  go_loopg [15, 5] (n + 1) (fun g_ iv fv wx => ∃ i : Nat, g_ = n + 1 - i ∧ iv = .int .i64 i ∧ i ≤ n ∧ fv = .int .i64 (mnA (l.take i)) ∧ Kp No w wx)
  case atStart => exact ⟨0, rfl, rfl, by omega, by simp [mnA], Kp.refl _ _⟩
  case round =>
    obtain ⟨i, hg, rfl, hi, rfl, kp⟩ := hrel
    have KP := Lib.hid kp
    clear kp
    obtain ⟨f, hf⟩ : ∃ f, f = mnA (l.take i) := ⟨_, rfl⟩
    rw [← hf]
    have HF := Lib.hid hf
    clear hf
    by_cases hlt : i < n
    · have hltI : (i : Int) < (n : Int) := by omega
      have hwi : IntKind.i64.wrap ((i : Int) + 1) = (i : Int) + 1 := IntWalk.i64_in _ (by omega)
      obtain ⟨y, hy⟩ : ∃ y, l[i]? = some y := ⟨_, List.getElem?_eq_getElem (by rw [← HN.out]; exact hlt)⟩
      rcases RD.out with ⟨_, he⟩ | ⟨g, o, cap', hv, _⟩
      · have := HN.out; rw [he, List.length_nil] at this; omega
      simp only [Value.slice.injEq] at hv
      obtain ⟨rfl, hzz, rfl⟩ := hv
      obtain ⟨y0, y1, y2⟩ := (RD.out.kpNo KP.out).styAt hy
      have HS := Lib.hid (mnA_snoc l i y hy)
      rw [← HF.out] at HS
      clear hzz hy hlt
      by_cases h1 : f < 0
      · have d1 : decide (f < 0) = true := by simpa using h1
        rw [if_pos (.inl h1)] at HS
        clear h1
        go_wp2_with fail
        go_roundg (n + 1 - (i + 1))
        case measure => omega
        case rel => exact ⟨i + 1, rfl, by go_num, by omega, by rw [HS.out], KP.out.alloc _⟩
      · have d1 : decide (f < 0) = false := by simpa using h1
        by_cases h2 : y.a < f
        · have d2 : decide (y.a < f) = true := by simpa using h2
          rw [if_pos (.inr h2)] at HS
          clear h1 h2
          go_wp2_with fail
          go_roundg (n + 1 - (i + 1))
          case measure => omega
          case rel => exact ⟨i + 1, rfl, by go_num, by omega, by rw [HS.out], KP.out.alloc _⟩
        · have d2 : decide (y.a < f) = false := by simpa using h2
          rw [if_neg (by rintro (e | e); exact h1 e; exact h2 e)] at HS
          clear h1 h2
          go_wp2_with fail
          go_roundg (n + 1 - (i + 1))
          case measure => omega
          case rel => exact ⟨i + 1, rfl, by go_num, by omega, by rw [HS.out], KP.out.alloc _⟩
    · obtain rfl : i = n := by omega
      have hd0 : ¬ (i : Int) < (i : Int) := by omega
      have HE := Lib.hid (show r = f by rw [HF.out, HN.out, List.take_length, HR.out])
      clear hlt
      go_wp2_with fail
      go_ret
      exact ⟨by rw [HE.out]; rfl, KP.out⟩
end Go.Proofs.YtgdokpfepfmbmaaDoor
