/- trip, plain: where a made trip goes, what it costs, what is lifted and dropped. No function of the program; carfaxlaw10, plain: the counts of TripRight (written by bin/gen_l10.py); TripRight: the walk (written by bin/gen_l10.py). No condition. -/
import Derived.Test.YtmipnicdlldjnaaDoorM7

namespace Go.Proofs.YtmipnicdlldjnaaDoor
set_option linter.unusedVariables false
set_option linter.unusedSimpArgs false
open Go.RowKit

theorem goT_mem {Q : List Nat} {x : ActT} (h : x ∈ goT Q) : ∃ (k b : Nat), Q[k]? = some b ∧ x = ⟨1, (b : Int), 0⟩ := by
  unfold goT at h
  obtain ⟨b, hb, rfl⟩ := List.mem_map.1 h
  obtain ⟨k, hk⟩ := List.getElem?_of_mem hb
  exact ⟨k, b, hk, rfl⟩
theorem wk_sizeT {f : Flr} {B : List Int} {fr : Nat} (r : rightB f = true) (hfr : fr < f.s.size) {j c : Nat} (hw : Wk (stepsP f fr B) fr j c) : c < f.s.size := by
  induction hw with
  | nil => exact hfr
  | step _ hc ih => exact steps_sz (rightB_iff.1 r) ih hc
/-- A leg's acts: not blocked; lanes, but for the end. -/
theorem leg_acts {f : Flr} {B : List Int} {fr tg : Nat} {Q : List Nat} (r : rightB f = true) (hfr : fr < f.s.size) (h : FstW (stepsP f fr B) fr tg Q) (hd : dst (stepsP f fr B) fr tg = (Q.length : Int)) {k b : Nat} (hb : Q[k]? = some b) :
    ¬ (b : Int) ∈ B ∧ (k + 1 < Q.length → laneB f b = true) ∧ (k + 1 = Q.length → b = tg) := by
  obtain ⟨_, h2, h3, h4⟩ := leg_cells h hd hb
  have hk := (List.getElem?_eq_some_iff.1 hb).1
  have w := fst_walkT h (k + 1) (by omega)
  rw [nd_succ hb] at w
  exact ⟨h2, fun hl => lane_of r (wk_sizeT r hfr w) (h3 hl), h4⟩
theorem leg_lanes {f : Flr} {B : List Int} {fr tg : Nat} {Q : List Nat} (r : rightB f = true) (hfr : fr < f.s.size) (h : FstW (stepsP f fr B) fr tg Q) (hd : dst (stepsP f fr B) fr tg = (Q.length : Int)) (ht : laneB f tg = true) {x : ActT} (hx : x ∈ goT Q) : laneB f x.c = true := by
  obtain ⟨k, b, hb, rfl⟩ := goT_mem hx
  have hk := (List.getElem?_eq_some_iff.1 hb).1
  obtain ⟨_, h2, h3⟩ := leg_acts r hfr h hd hb
  rcases Nat.lt_or_ge (k + 1) Q.length with hl | hl
  · exact h2 hl
  · rw [h3 (by omega)]; exact ht
theorem leg_free {f : Flr} {B : List Int} {fr tg : Nat} {Q : List Nat} (h : FstW (stepsP f fr B) fr tg Q) (hd : dst (stepsP f fr B) fr tg = (Q.length : Int)) {x : ActT} (hx : x ∈ goT Q) : ¬ x.c ∈ B := by
  obtain ⟨k, b, hb, rfl⟩ := goT_mem hx
  exact (leg_cells h hd hb).2.1
theorem dock_laneT {f : Flr} {robot : Int} {d : Nat} (h : dockP f robot = some d) : laneB f d = false := by
  obtain ⟨_, hk, _, _⟩ := dock_okT h
  cases hl : laneB f d with
  | false => rfl
  | true =>
    obtain ⟨_, e, _, h2, _⟩ := zone_okT (show (zoneP f (d : Int)).isSome = true from hl)
    obtain rfl := Int.ofNat.inj e
    omega
theorem TripW.goes {f : Flr} {robot pod : Int} {a b d : Nat} {B : List Int} {Q1 Q2 Q3 : List Nat} (t : TripW f robot pod a b d B Q1 Q2 Q3) :
    laneB f d = false ∧ (∀ x ∈ tripT pod a b Q1 Q2 Q3, x.k = 1 → ¬ x.c ∈ B) ∧ ∃ init, tripT pod a b Q1 Q2 Q3 = init ++ [⟨1, (d : Int), 0⟩] ∧ ∀ x ∈ init, x.k = 1 → laneB f x.c = true := by
  obtain ⟨ha, hb, hd, _, _, _⟩ := t.lens
  have hdl := dock_laneT t.dk
  refine ⟨hdl, ?_, ?_⟩
  · intro x hx hk
    unfold tripT at hx
    simp only [List.mem_append, List.mem_singleton] at hx
    rcases hx with ((hx | rfl) | (hx | rfl)) | hx
    · exact leg_free t.f1 t.d1 hx
    · exact absurd hk (show ¬ (2 : Nat) = 1 by decide)
    · exact leg_free t.f2 t.d2 hx
    · exact absurd hk (show ¬ (3 : Nat) = 1 by decide)
    · exact leg_free t.f3 t.d3 hx
  · have hne : Q3.length ≠ 0 := by
      intro h0
      have h1 := t.f3.en
      rw [h0] at h1
      have e : b = d := h1
      have := t.zb
      rw [e, hdl] at this
      cases this
    have hq : Q3 = Q3.take (Q3.length - 1) ++ [d] := by
      obtain ⟨c, hc⟩ : ∃ c, Q3[Q3.length - 1]? = some c := ⟨_, List.getElem?_eq_getElem (by omega)⟩
      have h3 := (leg_acts t.r hb t.f3 t.d3 hc).2.2 (by omega)
      rw [h3] at hc
      have := List.take_add_one (l := Q3) (i := Q3.length - 1)
      rw [show Q3.length - 1 + 1 = Q3.length by omega, List.take_length, hc] at this
      exact this
    refine ⟨(goT Q1 ++ [⟨2, (a : Int), pod⟩]) ++ (goT Q2 ++ [⟨3, (b : Int), pod⟩]) ++ goT (Q3.take (Q3.length - 1)), ?_, ?_⟩
    · unfold tripT
      have : goT Q3 = goT (Q3.take (Q3.length - 1)) ++ [⟨1, (d : Int), 0⟩] := by
        conv => lhs; rw [hq]
        unfold goT; rw [List.map_append]; rfl
      rw [this]; simp
    · intro x hx hk
      simp only [List.mem_append, List.mem_singleton] at hx
      rcases hx with ((hx | rfl) | (hx | rfl)) | hx
      · exact leg_lanes t.r hd t.f1 t.d1 t.za hx
      · exact absurd hk (show ¬ (2 : Nat) = 1 by decide)
      · exact leg_lanes t.r ha t.f2 t.d2 t.zb hx
      · exact absurd hk (show ¬ (3 : Nat) = 1 by decide)
      · obtain ⟨k, c, hc, rfl⟩ := goT_mem hx
        have hk2 := (List.getElem?_eq_some_iff.1 hc).1
        rw [List.length_take] at hk2
        rw [List.getElem?_take_of_lt (by omega)] at hc
        exact (leg_acts t.r hb t.f3 t.d3 hc).2.1 (by omega)
theorem TripW.small {f : Flr} {robot pod : Int} {a b d : Nat} {B : List Int} {Q1 Q2 Q3 : List Nat} (t : TripW f robot pod a b d B Q1 Q2 Q3) (hs : f.s.size ≤ 9223372036854775807) : ∀ x ∈ tripT pod a b Q1 Q2 Q3, x.c ≤ 9223372036854775807 := by
  obtain ⟨ha, hb, hd, _, _, _⟩ := t.lens
  have go : ∀ {fr tg : Nat} {Q : List Nat}, fr < f.s.size → FstW (stepsP f fr B) fr tg Q → ∀ x ∈ goT Q, x.c ≤ 9223372036854775807 := by
    intro fr tg Q hfr h x hx
    obtain ⟨k, c, hc, rfl⟩ := goT_mem hx
    have hk := (List.getElem?_eq_some_iff.1 hc).1
    have w := fst_walkT h (k + 1) (by omega)
    rw [nd_succ hc] at w
    have := wk_sizeT t.r hfr w
    show (c : Int) ≤ _
    omega
  intro x hx
  unfold tripT at hx
  simp only [List.mem_append, List.mem_singleton] at hx
  rcases hx with ((hx | rfl) | (hx | rfl)) | hx
  · exact go hd t.f1 x hx
  · show (a : Int) ≤ _; omega
  · exact go ha t.f2 x hx
  · show (b : Int) ≤ _; omega
  · exact go hb t.f3 x hx
theorem costT_goT (Q : List Nat) : costT (goT Q) = Q.length := by
  unfold costT
  rw [List.filter_eq_self.2, goT_len]
  intro x hx
  obtain ⟨k, b, _, rfl⟩ := goT_mem hx
  rfl
theorem costT_app (l m : List ActT) : costT (l ++ m) = costT l + costT m := by unfold costT; rw [List.filter_append, List.length_append]
theorem costT_trip (pod : Int) (a b : Nat) (Q1 Q2 Q3 : List Nat) : costT (tripT pod a b Q1 Q2 Q3) = Q1.length + Q2.length + Q3.length := by
  unfold tripT
  have e2 : costT [(⟨2, (a : Int), pod⟩ : ActT)] = 0 := rfl
  have e3 : costT [(⟨3, (b : Int), pod⟩ : ActT)] = 0 := rfl
  simp only [costT_app, costT_goT, e2, e3]
  omega
/-- Where a robot stands behind acts. -/
def atT : Int → List ActT → Int
  | c, [] => c
  | c, x :: l => atT (if x.k = 1 then x.c else c) l
theorem atT_snoc (c : Int) (l : List ActT) (x : ActT) : atT c (l ++ [x]) = if x.k = 1 then x.c else atT c l := by
  induction l generalizing c with
  | nil => rfl
  | cons y l ih => exact ih _
theorem doesP_at {f : Flr} {d : Int} {s t : WkS} {x : ActT} (h : doesP f d s x = some t) : t.at_ = if x.k = 1 then x.c else s.at_ := by
  unfold doesP at h
  split at h
  · rename_i hk; rw [if_pos hk]; split at h <;> cases h; rfl
  · rename_i hk
    rw [if_neg hk]
    split at h
    · split at h <;> cases h; rfl
    · split at h
      · split at h <;> cases h; rfl
      · cases h
theorem runP_atT {f : Flr} {d : Int} : ∀ (l : List ActT) {s t : WkS}, runP f d s l = some t → t.at_ = atT s.at_ l := by
  intro l
  induction l with
  | nil => intro s t h; rw [runP] at h; cases h; rfl
  | cons x l ih =>
    intro s t h
    rw [runP] at h
    cases hd : doesP f d s x with
    | none => rw [hd] at h; cases h
    | some u =>
      rw [hd] at h
      rw [ih h, doesP_at hd]; rfl
/-- What is left of right acts is right. -/
theorem left_right {f : Flr} {robot : Int} {d : Nat} {l : List ActT} {t : WkS} (hd : dockP f robot = some d) (h : runP f (d : Int) ⟨(d : Int), -1, false⟩ l = some t) (ht : t.at_ = d) (hp : t.pod < 0) (hl : l.length ≤ 1024) (k : Nat) (hk : k ≤ l.length) :
    rightT f robot (atT d (l.take k)) (l.drop k) = true := by
  rw [← List.take_append_drop k l, runP_append] at h
  cases hs : runP f (d : Int) ⟨(d : Int), -1, false⟩ (l.take k) with
  | none => rw [hs] at h; cases h
  | some s =>
    rw [hs, Option.bind_some] at h
    have ha := runP_atT _ hs
    have hsim : Sim s ⟨s.at_, -1, false⟩ := ⟨rfl, .inr ⟨rfl, rfl⟩⟩
    obtain ⟨t', e, h1, h2⟩ := hsim.run _ h
    have hpl : ∀ j, j ≤ k → ∀ u, runP f (d : Int) ⟨(d : Int), -1, false⟩ (l.take j) = some u → laneB f u.at_ = true ∨ u.at_ = d := by
      intro j
      induction j with
      | zero => intro _ u hu; rw [List.take_zero, runP] at hu; cases hu; exact .inr rfl
      | succ j ih =>
        intro hj u hu
        obtain ⟨x, hx⟩ : ∃ x, l[j]? = some x := ⟨_, List.getElem?_eq_getElem (by omega)⟩
        rw [runP_at hx] at hu
        cases hv : runP f (d : Int) ⟨(d : Int), -1, false⟩ (l.take j) with
        | none => rw [hv] at hu; cases hu
        | some v =>
          rw [hv, Option.bind_some] at hu
          have e := doesP_at hu
          by_cases hk1 : x.k = 1
          · rw [if_pos hk1] at e
            unfold doesP at hu
            rw [if_pos hk1] at hu
            split at hu
            · rename_i hg
              unfold goB at hg
              simp only [Bool.and_eq_true, Bool.or_eq_true, decide_eq_true_eq] at hg
              rw [e]; exact hg.2
            · cases hu
          · rw [if_neg hk1] at e
            rw [e]; exact ih (by omega) v hv
    have hlane := hpl k (Nat.le_refl _) s hs
    unfold rightT
    rw [hd]
    have hat : atT (d : Int) (l.take k) = s.at_ := ha.symm
    simp only [hat, e]
    have hb1 : (laneB f s.at_ || decide (s.at_ = (d : Int))) = true := by simpa using hlane
    have hb2 : (l.drop k).length ≤ 1024 := by rw [List.length_drop]; omega
    have hb3 : t'.at_ = (d : Int) := by rw [h1]; exact ht
    have hb4 : t'.pod < 0 := by rcases h2 with ⟨e2, _⟩ | ⟨e2, _⟩ <;> rw [e2]; exact hp; decide
    rw [hb1]
    simp only [List.length_drop] at hb2
    simp [hb3, hb4]; omega
/-- Each step of a made trip. -/
theorem TripW.each {f : Flr} {robot pod : Int} {a b d : Nat} {B : List Int} {Q1 Q2 Q3 : List Nat} (t : TripW f robot pod a b d B Q1 Q2 Q3) : ∀ (i : Nat) x, (tripT pod a b Q1 Q2 Q3)[i]? = some x → x.k = 1 →
    x.c ∈ ints (nearP f (atT d ((tripT pod a b Q1 Q2 Q3).take i))) ∧ ¬ x.c ∈ B ∧ (laneB f x.c = decide (i + 1 < (tripT pod a b Q1 Q2 Q3).length)) ∧ (laneB f x.c = false → x.c = d) := by
  intro i x hx hk
  have hr := t.run
  obtain ⟨hdl, hB, init, hin, hl⟩ := t.goes
  obtain ⟨l, hll⟩ : ∃ l, l = tripT pod a b Q1 Q2 Q3 := ⟨_, rfl⟩
  rw [← hll] at hx hr hB hin ⊢
  have hi := (List.getElem?_eq_some_iff.1 hx).1
  have h2 := hr
  rw [← List.take_append_drop (i + 1) l, runP_append, runP_at hx] at h2
  cases hs : runP f (d : Int) ⟨(d : Int), -1, false⟩ (l.take i) with
  | none => rw [hs] at h2; cases h2
  | some u =>
    rw [hs, Option.bind_some] at h2
    cases hd : doesP f (d : Int) u x with
    | none => rw [hd] at h2; cases h2
    | some v =>
      have hg : goB f (d : Int) u x = true := by
        unfold doesP at hd
        rw [if_pos hk] at hd
        split at hd
        · assumption
        · cases hd
      unfold goB at hg
      simp only [Bool.and_eq_true, Bool.or_eq_true, decide_eq_true_eq] at hg
      have ha := runP_atT _ hs
      simp only at ha
      refine ⟨by rw [← ha]; exact hg.1.2, hB x (List.mem_of_getElem? hx) hk, ?_, fun h => ?_⟩
      · have hlen : l.length = init.length + 1 := by rw [hin]; simp
        rcases Nat.lt_or_ge i init.length with h | h
        · rw [hin, List.getElem?_append_left h] at hx
          rw [hl x (List.mem_of_getElem? hx) hk]
          symm; simp; omega
        · rw [hin, List.getElem?_append_right h, show i - init.length = 0 by omega] at hx
          simp at hx
          subst hx
          rw [hdl]
          symm; simp; omega
      · rcases hg.2 with h1 | h1
        · rw [h] at h1; cases h1
        · exact h1
end Go.Proofs.YtmipnicdlldjnaaDoor

namespace Go.Proofs.YtmipnicdlldjnaaDoor
set_option linter.unusedVariables false
set_option linter.unusedSimpArgs false
open Go.RowKit

/-- The three ways, asked again. -/
theorem find_againT (F : Flr) (hsz : F.s.size ≤ 1000000) (k c : Nat) {Q : List Nat} {bv : Value} {B : List Int} {w : World} (hB : Rd IK w bv B) (hok : ptOk F k = true) (hop : opB F c = true) (hd : dst (stepsP F k B) k c = (Q.length : Int)) (hf : FstW (stepsP F k B) k c Q) :
    Calls Tryd.prog 15 #[F.val, .int .i64 (k : Int), .int .i64 (c : Int), bv] w fun e w' => ∃ A q, e = .returned (.tuple #[.slice A Q.length q, .int .i64 0]) ∧ NewS IK 3 w w' (.slice A Q.length q) (ints Q) := by
  refine (ptFind_any F hsz k c hB hok hop).mono ?_
  rintro e w' (⟨h, _⟩ | ⟨R, A, q, h1, h2, rfl, h4⟩)
  · omega
  · have hl : R.length = Q.length := by omega
    obtain rfl := h2.uniq hf hl
    exact ⟨A, q, rfl, h4⟩
/-- The law's counts: lifted, dropped. -/
def cnS (pod fr tg : Int) (s : Nat × Nat) (x : ActT) : Nat × Nat :=
  (if (decide (x.k = 2) && decide (x.p = pod) && decide (x.c = fr) && decide (s.2 = 0)) = true then s.1 + 1 else s.1,
   if (decide (x.k = 3) && decide (x.p = pod) && decide (x.c = tg) && decide ((if (decide (x.k = 2) && decide (x.p = pod) && decide (x.c = fr) && decide (s.2 = 0)) = true then s.1 + 1 else s.1) = 1)) = true then s.2 + 1 else s.2)
def cnT (pod fr tg : Int) (l : List ActT) : Nat × Nat := l.foldl (cnS pod fr tg) (0, 0)
theorem cnT_snoc {pod fr tg : Int} {l : List ActT} {k : Nat} {x : ActT} (h : l[k]? = some x) : cnT pod fr tg (l.take (k + 1)) = cnS pod fr tg (cnT pod fr tg (l.take k)) x := by
  unfold cnT; rw [List.take_add_one, h, List.foldl_append]; rfl
theorem cn_goT (pod fr tg : Int) (Q : List Nat) (s : Nat × Nat) : (goT Q).foldl (cnS pod fr tg) s = s := by
  induction Q generalizing s with
  | nil => rfl
  | cons c Q ih =>
    show (goT Q).foldl (cnS pod fr tg) (cnS pod fr tg s ⟨1, (c : Int), 0⟩) = s
    rw [ih]
    unfold cnS
    simp
theorem cnT_trip (pod : Int) (a b : Nat) (Q1 Q2 Q3 : List Nat) : cnT pod a b (tripT pod a b Q1 Q2 Q3) = (1, 1) := by
  unfold cnT tripT
  simp only [List.foldl_append, cn_goT, List.foldl_cons, List.foldl_nil]
  unfold cnS
  simp
theorem cnT_le (pod fr tg : Int) (l : List ActT) (k : Nat) (hk : k ≤ l.length) : (cnT pod fr tg (l.take k)).1 ≤ k ∧ (cnT pod fr tg (l.take k)).2 ≤ k := by
  induction k with
  | zero => simp [cnT]
  | succ k ih =>
    obtain ⟨x, hx⟩ : ∃ x, l[k]? = some x := ⟨_, List.getElem?_eq_getElem (by omega)⟩
    rw [cnT_snoc hx]
    have := ih (by omega)
    unfold cnS
    constructor
    · simp only; repeat' split
      all_goals omega
    · simp only; repeat' split
      all_goals omega
end Go.Proofs.YtmipnicdlldjnaaDoor

namespace Go.Proofs.YtmipnicdlldjnaaDoor
set_option linter.unusedVariables false
set_option linter.unusedSimpArgs false
open Go.RowKit

set_option maxHeartbeats 4000000 in
set_option maxRecDepth 100000 in
theorem right_row (x : Cb) {w : World} (hx : x.Ok w) : Calls Tryd.prog 5 #[x.val] w fun e w' => e = .returned (.bool true) ∧ Kp No w w' := by
  have HSH := Lib.hid shown10_any
  obtain ⟨t, ht⟩ : ∃ t, t = (decide (x.f.s.size ≤ 60) && decide (x.B.length ≤ 30)) := ⟨_, rfl⟩
  have SM := Lib.hid (small10_any x hx t ht)
  have H60 := Lib.hid (show t = true → x.f.s.size ≤ 60 ∧ x.B.length ≤ 30 by intro e; rw [ht] at e; simpa using e)
  obtain ⟨f, rb, pod, fr, tg, bv, B⟩ := x
  obtain ⟨hsz, hrb, hfr, htg, hB⟩ := hx
  simp only at hsz hrb hfr htg hB H60
  unfold Cb.val at SM ⊢
  simp only at SM ⊢
  obtain ⟨F, hF⟩ : ∃ F, F = f := ⟨_, rfl⟩
  have HF := Lib.hid hF
  rw [← hF] at H60
  have MK := Lib.hid (fun (h60 : F.s.size ≤ 60) wx (hk : Kp No w wx) => tpMake_any F (by omega) rb pod fr tg hrb hfr htg (hB.kpNo hk))
  have DK := Lib.hid (fun (h60 : F.s.size ≤ 60) wx => dock_any F (by omega) rb hrb wx)
  have FD := Lib.hid (fun (h60 : F.s.size ≤ 60) wx (hk : Kp No w wx) (k c : Nat) (Q : List Nat) (hok : ptOk F k = true) (hop : opB F c = true) (hd : dst (stepsP F k B) k c = (Q.length : Int)) (hf : FstW (stepsP F k B) k c Q) => find_againT F (by omega) k c (hB.kpNo hk) hok hop hd hf)
  have RT := Lib.hid (fun (h60 : F.s.size ≤ 60) (d : Nat) (hd : (d : Int) ≤ 9223372036854775807) l (hc : ∀ x ∈ l, x.c ≤ 9223372036854775807) (hr : rightT F rb d l = true) wx v (hv : Rd AcK wx v l) => tpRight_any F (by omega) rb d hrb hd hv hc true hr)
  obtain ⟨X, Y, s⟩ := f
  simp only at SM ⊢
  have HV := Lib.hid (show F.val = .agg #[.int .i64 X, .int .i64 Y, .string s] by rw [hF]; rfl)
  rw [HV.out] at MK DK FD RT
  obtain ⟨w1, hw1⟩ : ∃ y : World, y = w.alloc (.cells #[.int .i64 X, .int .i64 Y, .string s, .int .i64 rb, .int .i64 pod, .int .i64 fr, .int .i64 tg, bv] 26) := ⟨_, rfl⟩
  have BX := Lib.hid (show w1.heap[w.heap.size]? = some (.cells #[.int .i64 X, .int .i64 Y, .string s, .int .i64 rb, .int .i64 pod, .int .i64 fr, .int .i64 tg, bv] 26 (0, 0)) by rw [hw1]; exact blk_new w _)
  have KB := Lib.hid (show Kp No w w1 by rw [hw1]; exact (Kp.refl _ _).alloc _)
  have HB := Lib.hid (fun wx (hk : Kp No w1 wx) => hB.kpNo (KB.out.no hk))
  have HW1 := Lib.hid hw1
  have LB := Lib.hid (fun wx (hk : Kp No w1 wx) => case10_cells BX.out hk)
  clear hsz hrb hfr htg hB ht hF hw1
  go_enter Tryd.func5, Tryd.ntmps5
  go_upto_region 1 with fail
  rw [← HW1.out]
  go_wp2_with fail
  refine (HSH.out _).mono ?_
  rintro e w2 ⟨rfl, k2⟩
  have K2 := Lib.hid k2
  clear k2
  obtain ⟨c0, c1, c2, c3, c4, c5, c6, c7⟩ := LB.out w2 K2.out
  go_wp2_with fail
  refine (SM.out _).mono ?_
  rintro e w3 ⟨rfl, k3⟩
  have K3 := Lib.hid (K2.out.no k3)
  clear k3 c0 c1 c2 c3 c4 c5 c6 c7
  cases t with
  | false =>
    go_wp2_with fail
    go_ret
    exact ⟨rfl, KB.out.no K3.out⟩
  | true =>
    obtain ⟨h60, h30⟩ := H60.out (by first | rfl | trivial)
    have HC := Lib.hid h60
    have HC30 := Lib.hid h30
    clear h60 h30
    obtain ⟨c0, c1, c2, c3, c4, c5, c6, c7⟩ := LB.out w3 K3.out
    go_wp2_with fail
    refine (MK.out HC.out _ (KB.out.no K3.out)).mono ?_
    rintro e w4 ⟨out, Ao, qo, er, hm, rfl, no⟩
    have NO := Lib.hid no
    have HM := Lib.hid hm
    have K4 := Lib.hid (K3.out.no no.kp)
    have HER := Lib.hid (show er = 0 ∨ (er = 1 ∧ out = []) ∨ (er = 2 ∧ out = []) by cases hm <;> simp)
    clear hm no c0 c1 c2 c3 c4 c5 c6 c7
    by_cases he : er ≠ 0
    · have HEE := Lib.hid (show (er = 1 ∨ er = 2) ∧ out = [] by rcases HER.out with h | ⟨h, h2⟩ | ⟨h, h2⟩; exact absurd h he; exact ⟨.inl h, h2⟩; exact ⟨.inr h, h2⟩)
      obtain ⟨h1, rfl⟩ := HEE.out
      rcases h1 with rfl | rfl
      all_goals
        go_wp2_with fail
        go_ret
        exact ⟨rfl, KB.out.no K4.out⟩
    have he : er = 0 := by omega
    subst he
    obtain ⟨a, b, d, Q1, Q2, Q3, hfa, hgb, hout, tw⟩ := made_trip HM.out rfl
    subst hfa hgb
    obtain ⟨ha, hb, hd, hq1, hq2, hq3⟩ := tw.lens
    have hdk := dock_okT tw.dk
    have hak : ptOk F a = true ∧ opB F a = true := by obtain ⟨_, e, _, _, h1, h2⟩ := zone_okT tw.za; obtain rfl := Int.ofNat.inj e; exact ⟨h1, h2⟩
    have hbk : ptOk F b = true ∧ opB F b = true := by obtain ⟨_, e, _, _, h1, h2⟩ := zone_okT tw.zb; obtain rfl := Int.ofNat.inj e; exact ⟨h1, h2⟩
    have D1 := Lib.hid (show ∀ wx, Calls Tryd.prog 10 #[.agg #[.int .i64 X, .int .i64 Y, .string s], .int .i64 rb] wx fun e w' => e = .returned (.tuple #[.int .i64 (d : Int), .bool true]) ∧ Kp No wx w' from fun wx => by have h := DK.out HC.out wx; rw [tw.dk] at h; exact h)
    have F1 := Lib.hid (fun wx (hk : Kp No w1 wx) => FD.out HC.out wx (KB.out.no hk) d a Q1 hdk.2.2.1 hak.2 tw.d1 tw.f1)
    have F2 := Lib.hid (fun wx (hk : Kp No w1 wx) => FD.out HC.out wx (KB.out.no hk) a b Q2 hak.1 hbk.2 tw.d2 tw.f2)
    have F3 := Lib.hid (fun wx (hk : Kp No w1 wx) => FD.out HC.out wx (KB.out.no hk) b d Q3 hbk.1 hdk.2.2.2 tw.d3 tw.f3)
    have hmb : ∀ x ∈ out, x.c ≤ 9223372036854775807 := by rw [hout]; exact tw.small (by have := HC.out; omega)
    have R1 := Lib.hid (RT.out HC.out d (by have := HC.out; omega) out hmb (by rw [hout]; exact tw.right))
    have CN := Lib.hid (show cnT pod a b out = (1, 1) by rw [hout]; exact cnT_trip _ _ _ _ _ _)
    have CO := Lib.hid (show costT out = Q1.length + Q2.length + Q3.length by rw [hout]; exact costT_trip _ _ _ _ _ _)
    have OL := Lib.hid (show out.length = Q1.length + Q2.length + Q3.length + 2 by rw [hout]; exact tripT_len _ _ _ _ _ _)
    obtain ⟨n, hn⟩ : ∃ z, z = out.length := ⟨_, rfl⟩
    obtain ⟨q1, e1⟩ : ∃ z, z = Q1.length := ⟨_, rfl⟩
    obtain ⟨q2, e2⟩ : ∃ z, z = Q2.length := ⟨_, rfl⟩
    obtain ⟨q3, e3⟩ : ∃ z, z = Q3.length := ⟨_, rfl⟩
    rw [← e1] at hq1 F1; rw [← e2] at hq2 F2; rw [← e3] at hq3 F3
    rw [← e1, ← e2, ← e3] at CO; rw [← e1, ← e2, ← e3, ← hn] at OL
    have HN := Lib.hid hn
    have hnb : n ≤ 1000 := by have := OL.out; omega
    have NO2 := Lib.hid (show NewS AcK 36 w3 w4 (.slice Ao n qo) out by rw [hn]; exact NO.out)
    rw [← hn]
    obtain ⟨c0, c1, c2, c3, c4, c5, c6, c7⟩ := LB.out w4 K4.out
    clear hout tw ha hb hd hdk hak hbk hmb hn e1 e2 e3
    go_wp2_with fail
    refine (D1.out _).mono ?_
    rintro e w5 ⟨rfl, k5⟩
    have K5 := Lib.hid (K4.out.no k5)
    have N5 := Lib.hid k5
    clear k5 c0 c1 c2 c3 c4 c5 c6 c7
    obtain ⟨c0, c1, c2, c3, c4, c5, c6, c7⟩ := LB.out w5 K5.out
    go_wp2_with fail
    refine (F1.out _ K5.out).mono ?_
    rintro e w6 ⟨A1, p1, rfl, n6⟩
    have K6 := Lib.hid (K5.out.no n6.kp)
    have N6 := Lib.hid (N5.out.no n6.kp)
    clear n6 c0 c1 c2 c3 c4 c5 c6 c7
    obtain ⟨c0, c1, c2, c3, c4, c5, c6, c7⟩ := LB.out w6 K6.out
    go_wp2_with fail
    refine (F2.out _ K6.out).mono ?_
    rintro e w7 ⟨A2, p2, rfl, n7⟩
    have K7 := Lib.hid (K6.out.no n7.kp)
    have N7 := Lib.hid (N6.out.no n7.kp)
    clear n7 c0 c1 c2 c3 c4 c5 c6 c7
    obtain ⟨c0, c1, c2, c3, c4, c5, c6, c7⟩ := LB.out w7 K7.out
    go_wp2_with fail
    refine (F3.out _ K7.out).mono ?_
    rintro e w8 ⟨A3, p3, rfl, n8⟩
    have K8 := Lib.hid (K7.out.no n8.kp)
    have OW := Lib.hid (show Rd AcK w8 (.slice Ao n qo) out from NO2.out.own.rd.kpNo (N7.out.no n8.kp))
    clear n8 c0 c1 c2 c3 c4 c5 c6 c7
    go_wp2_with fail
    go_loopg [14, 15, 99] (n + 1) (fun g_ lv dv iv wx => ∃ (i li dr : Nat), g_ = n + 1 - i ∧ iv = .int .i64 (i : Int) ∧ i ≤ n ∧ lv = .int .i64 (li : Int) ∧ dv = .int .i64 (dr : Int) ∧ cnT pod a b (out.take i) = (li, dr) ∧ Kp No w8 wx)
    case atStart => exact ⟨0, 0, 0, rfl, rfl, by omega, rfl, rfl, rfl, Kp.refl _ _⟩
    case round =>
      obtain ⟨i, li, dr, hg, rfl, hi, rfl, rfl, hcn, kp⟩ := hrel
      have hle := cnT_le pod a b out i (by rw [← HN.out]; exact hi)
      rw [hcn] at hle
      obtain ⟨hli, hdr⟩ := hle
      simp only at hli hdr
      have HCN := Lib.hid hcn; have KP := Lib.hid kp
      clear hcn kp
      by_cases hlt : i < n
      · have hltI : (i : Int) < (n : Int) := by omega
        have hwi : IntKind.i64.wrap ((i : Int) + 1) = (i : Int) + 1 := IntWalk.i64_in _ (by omega)
        have hwl : IntKind.i64.wrap ((li : Int) + 1) = (li : Int) + 1 := IntWalk.i64_in _ (by omega)
        have hwd : IntKind.i64.wrap ((dr : Int) + 1) = (dr : Int) + 1 := IntWalk.i64_in _ (by omega)
        obtain ⟨x, hx⟩ : ∃ x, out[i]? = some x := ⟨_, List.getElem?_eq_getElem (by rw [← HN.out]; exact hlt)⟩
        rcases (OW.out.kpNo KP.out) with ⟨_, he⟩ | ⟨g, o, cap', hv, _⟩
        · have := HN.out; rw [he, List.length_nil] at this; omega
        simp only [Value.slice.injEq] at hv
        obtain ⟨rfl, hzz, rfl⟩ := hv
        obtain ⟨x0, x1, x2, x3⟩ := (OW.out.kpNo KP.out).actAt hx
        have cc := fun o => LB.out (wr.alloc o) ((K8.out.no KP.out).alloc o)
        have K1 := Lib.hid (show ∀ o, Kp No w8 (wr.alloc o) from fun o => KP.out.alloc o)
        obtain ⟨k2, hk2⟩ : ∃ z, ((x.k : Int) == 2) = z := ⟨_, rfl⟩
        obtain ⟨k3, hk3⟩ : ∃ z, ((x.k : Int) == 3) = z := ⟨_, rfl⟩
        obtain ⟨pe, hpe⟩ : ∃ z, (x.p == pod) = z := ⟨_, rfl⟩
        obtain ⟨ce, hce⟩ : ∃ z, (x.c == (a : Int)) = z := ⟨_, rfl⟩
        obtain ⟨cb, hcb⟩ : ∃ z, (x.c == (b : Int)) = z := ⟨_, rfl⟩
        obtain ⟨de, hde⟩ : ∃ z, ((dr : Int) == 0) = z := ⟨_, rfl⟩
        obtain ⟨l1, hl1⟩ : ∃ z, ((li : Int) == 1) = z := ⟨_, rfl⟩
        have HX := Lib.hid (show (k2 && k3) = false by rw [← hk2, ← hk3]; cases h : ((x.k : Int) == 2) <;> simp at h ⊢; omega)
        have HS := Lib.hid (show cnT pod a b (out.take (i + 1)) = (if (k2 && pe && ce && de) = true then li + 1 else li, if (k3 && pe && cb && (if (k2 && pe && ce && de) = true then decide (li + 1 = 1) else l1)) = true then dr + 1 else dr) by
          rw [cnT_snoc hx, HCN.out]
          have y2 : decide (x.k = 2) = k2 := by rw [← hk2]; by_cases h : x.k = 2 <;> simp [h] <;> omega
          have y3 : decide (x.k = 3) = k3 := by rw [← hk3]; by_cases h : x.k = 3 <;> simp [h] <;> omega
          have yp : decide (x.p = pod) = pe := by rw [← hpe]; by_cases h : x.p = pod <;> simp [h]
          have ya : decide (x.c = (a : Int)) = ce := by rw [← hce]; by_cases h : x.c = (a : Int) <;> simp [h]
          have yb : decide (x.c = (b : Int)) = cb := by rw [← hcb]; by_cases h : x.c = (b : Int) <;> simp [h]
          have yd : decide (dr = 0) = de := by rw [← hde]; by_cases h : dr = 0 <;> simp [h] <;> omega
          have yl : decide (li = 1) = l1 := by rw [← hl1]; by_cases h : li = 1 <;> simp [h] <;> omega
          unfold cnS
          simp only [y2, y3, yp, ya, yb, yd]
          cases k2 <;> cases pe <;> cases ce <;> cases de <;> simp [yl])
        clear hx hzz hlt
        cases k2
        · cases k3
          · go_wp2_with fail
            go_roundg (n + 1 - (i + 1))
            case measure => omega
            case rel => exact ⟨i + 1, li, dr, rfl, by go_num, by omega, rfl, rfl, HS.out.trans (by simp), K1.out _⟩
          · cases pe <;> cases cb <;> cases l1
            case true.true.true =>
              go_wp2_with fail
              go_roundg (n + 1 - (i + 1))
              case measure => omega
              case rel => exact ⟨i + 1, li, dr + 1, rfl, by go_num, by omega, rfl, by go_num, HS.out.trans (by simp), K1.out _⟩
            all_goals
              go_wp2_with fail
              go_roundg (n + 1 - (i + 1))
              case measure => omega
              case rel => exact ⟨i + 1, li, dr, rfl, by go_num, by omega, rfl, rfl, HS.out.trans (by simp), K1.out _⟩
        · obtain rfl : k3 = false := by have := HX.out; simpa using this
          cases pe <;> cases ce <;> cases de
          case true.true.true =>
            go_wp2_with fail
            go_roundg (n + 1 - (i + 1))
            case measure => omega
            case rel => exact ⟨i + 1, li + 1, dr, rfl, by go_num, by omega, by go_num, rfl, HS.out.trans (by simp), K1.out _⟩
          all_goals
            go_wp2_with fail
            go_roundg (n + 1 - (i + 1))
            case measure => omega
            case rel => exact ⟨i + 1, li, dr, rfl, by go_num, by omega, rfl, rfl, HS.out.trans (by simp), K1.out _⟩
      · obtain rfl : n = i := by omega
        have hd0 : ¬ (n : Int) < (n : Int) := by omega
        have hfin : cnT pod a b out = (li, dr) := by have := HCN.out; rw [HN.out, List.take_length] at this; exact this
        rw [CN.out] at hfin
        simp only [Prod.mk.injEq] at hfin
        obtain ⟨rfl, rfl⟩ := hfin
        obtain ⟨q12, h12⟩ : ∃ z, z = q1 + q2 := ⟨_, rfl⟩
        obtain ⟨cs, hcs⟩ : ∃ z, z = q12 + q3 := ⟨_, rfl⟩
        have hw1 : IntKind.i64.wrap ((q1 : Int) + (q2 : Int)) = (q12 : Int) := by rw [IntWalk.i64_in _ (by omega)]; omega
        have hw2 : IntKind.i64.wrap ((q12 : Int) + (q3 : Int)) = (cs : Int) := by rw [IntWalk.i64_in _ (by omega)]; omega
        have hw3 : IntKind.i64.wrap ((cs : Int) + 2) = (n : Int) := by have := OL.out; rw [IntWalk.i64_in _ (by omega)]; omega
        have CC := Lib.hid (show ∀ wx v, Rd AcK wx v out → Calls Tryd.prog 16 #[v] wx fun e w' => e = .returned (.int .i64 (cs : Int)) ∧ Kp No wx w' from fun wx v hv => by
          have h := tpCost_any hv (by rw [← HN.out]; omega)
          rw [CO.out, ← h12, ← hcs] at h
          exact h)
        clear hlt h12 hcs
        obtain ⟨c0, c1, c2, c3, c4, c5, c6, c7⟩ := LB.out wr (K8.out.no KP.out)
        go_wp2_with fail
        refine (R1.out _ _ (OW.out.kpNo KP.out)).mono ?_
        rintro e w9 ⟨rfl, k9⟩
        have K9 := Lib.hid (KP.out.no k9)
        clear k9 c0 c1 c2 c3 c4 c5 c6 c7
        go_wp2_with fail
        refine (CC.out _ _ (OW.out.kpNo K9.out)).mono ?_
        rintro e w10 ⟨rfl, k10⟩
        have K10 := Lib.hid (K9.out.no k10)
        clear k10
        go_wp2_with fail
        refine (CC.out _ _ (OW.out.kpNo K10.out)).mono ?_
        rintro e w11 ⟨rfl, k11⟩
        have K11 := Lib.hid (K10.out.no k11)
        clear k11
        go_wp2_with fail
        go_ret
        exact ⟨rfl, KB.out.no (K8.out.no K11.out)⟩
end Go.Proofs.YtmipnicdlldjnaaDoor
