/- trip, plain: where a made trip goes, what it costs, what is lifted and dropped. No function of the program; TripGoes: the walk (written by bin/gen_l10.py). No condition. -/
import Derived.Test.YtmipnicdlldjnaaDoorM7

namespace Go.Proofs.YtmipnicdlldjnaaDoor
set_option linter.unusedVariables false
set_option linter.unusedSimpArgs false
open Go.RowKit

theorem goT_mem {Q : List Nat} {x : ActT} (h : x ∈ goT Q) : ∃ (k b : Nat), Q[k]? = some b ∧ x = ⟨1, (b : Int), 0⟩ := by
  unfold goT at h
  obtain ⟨b, hb, rfl⟩ := List.mem_map.1 h
  obtain ⟨k, hk⟩ := List.getElem?_of_mem hb
  exact ⟨k, b, hk, rfl⟩
theorem wk_sizeT {f : Flr} {B : List Int} {fr : Nat} (r : rightB f = true) (hfr : fr < f.s.size) {j c : Nat} (hw : Wk (stepsP f fr B) fr j c) : c < f.s.size := by
  induction hw with
  | nil => exact hfr
  | step _ hc ih => exact steps_sz (rightB_iff.1 r) ih hc
/-- A leg's acts: not blocked; lanes, but for the end. -/
theorem leg_acts {f : Flr} {B : List Int} {fr tg : Nat} {Q : List Nat} (r : rightB f = true) (hfr : fr < f.s.size) (h : FstW (stepsP f fr B) fr tg Q) (hd : dst (stepsP f fr B) fr tg = (Q.length : Int)) {k b : Nat} (hb : Q[k]? = some b) :
    ¬ (b : Int) ∈ B ∧ (k + 1 < Q.length → laneB f b = true) ∧ (k + 1 = Q.length → b = tg) := by
  obtain ⟨_, h2, h3, h4⟩ := leg_cells h hd hb
  have hk := (List.getElem?_eq_some_iff.1 hb).1
  have w := fst_walkT h (k + 1) (by omega)
  rw [nd_succ hb] at w
  exact ⟨h2, fun hl => lane_of r (wk_sizeT r hfr w) (h3 hl), h4⟩
theorem leg_lanes {f : Flr} {B : List Int} {fr tg : Nat} {Q : List Nat} (r : rightB f = true) (hfr : fr < f.s.size) (h : FstW (stepsP f fr B) fr tg Q) (hd : dst (stepsP f fr B) fr tg = (Q.length : Int)) (ht : laneB f tg = true) {x : ActT} (hx : x ∈ goT Q) : laneB f x.c = true := by
  obtain ⟨k, b, hb, rfl⟩ := goT_mem hx
  have hk := (List.getElem?_eq_some_iff.1 hb).1
  obtain ⟨_, h2, h3⟩ := leg_acts r hfr h hd hb
  rcases Nat.lt_or_ge (k + 1) Q.length with hl | hl
  · exact h2 hl
  · rw [h3 (by omega)]; exact ht
theorem leg_free {f : Flr} {B : List Int} {fr tg : Nat} {Q : List Nat} (h : FstW (stepsP f fr B) fr tg Q) (hd : dst (stepsP f fr B) fr tg = (Q.length : Int)) {x : ActT} (hx : x ∈ goT Q) : ¬ x.c ∈ B := by
  obtain ⟨k, b, hb, rfl⟩ := goT_mem hx
  exact (leg_cells h hd hb).2.1
theorem dock_laneT {f : Flr} {robot : Int} {d : Nat} (h : dockP f robot = some d) : laneB f d = false := by
  obtain ⟨_, hk, _, _⟩ := dock_okT h
  cases hl : laneB f d with
  | false => rfl
  | true =>
    obtain ⟨_, e, _, h2, _⟩ := zone_okT (show (zoneP f (d : Int)).isSome = true from hl)
    obtain rfl := Int.ofNat.inj e
    omega
theorem TripW.goes {f : Flr} {robot pod : Int} {a b d : Nat} {B : List Int} {Q1 Q2 Q3 : List Nat} (t : TripW f robot pod a b d B Q1 Q2 Q3) :
    laneB f d = false ∧ (∀ x ∈ tripT pod a b Q1 Q2 Q3, x.k = 1 → ¬ x.c ∈ B) ∧ ∃ init, tripT pod a b Q1 Q2 Q3 = init ++ [⟨1, (d : Int), 0⟩] ∧ ∀ x ∈ init, x.k = 1 → laneB f x.c = true := by
  obtain ⟨ha, hb, hd, _, _, _⟩ := t.lens
  have hdl := dock_laneT t.dk
  refine ⟨hdl, ?_, ?_⟩
  · intro x hx hk
    unfold tripT at hx
    simp only [List.mem_append, List.mem_singleton] at hx
    rcases hx with ((hx | rfl) | (hx | rfl)) | hx
    · exact leg_free t.f1 t.d1 hx
    · exact absurd hk (show ¬ (2 : Nat) = 1 by decide)
    · exact leg_free t.f2 t.d2 hx
    · exact absurd hk (show ¬ (3 : Nat) = 1 by decide)
    · exact leg_free t.f3 t.d3 hx
  · have hne : Q3.length ≠ 0 := by
      intro h0
      have h1 := t.f3.en
      rw [h0] at h1
      have e : b = d := h1
      have := t.zb
      rw [e, hdl] at this
      cases this
    have hq : Q3 = Q3.take (Q3.length - 1) ++ [d] := by
      obtain ⟨c, hc⟩ : ∃ c, Q3[Q3.length - 1]? = some c := ⟨_, List.getElem?_eq_getElem (by omega)⟩
      have h3 := (leg_acts t.r hb t.f3 t.d3 hc).2.2 (by omega)
      rw [h3] at hc
      have := List.take_add_one (l := Q3) (i := Q3.length - 1)
      rw [show Q3.length - 1 + 1 = Q3.length by omega, List.take_length, hc] at this
      exact this
    refine ⟨(goT Q1 ++ [⟨2, (a : Int), pod⟩]) ++ (goT Q2 ++ [⟨3, (b : Int), pod⟩]) ++ goT (Q3.take (Q3.length - 1)), ?_, ?_⟩
    · unfold tripT
      have : goT Q3 = goT (Q3.take (Q3.length - 1)) ++ [⟨1, (d : Int), 0⟩] := by
        conv => lhs; rw [hq]
        unfold goT; rw [List.map_append]; rfl
      rw [this]; simp
    · intro x hx hk
      simp only [List.mem_append, List.mem_singleton] at hx
      rcases hx with ((hx | rfl) | (hx | rfl)) | hx
      · exact leg_lanes t.r hd t.f1 t.d1 t.za hx
      · exact absurd hk (show ¬ (2 : Nat) = 1 by decide)
      · exact leg_lanes t.r ha t.f2 t.d2 t.zb hx
      · exact absurd hk (show ¬ (3 : Nat) = 1 by decide)
      · obtain ⟨k, c, hc, rfl⟩ := goT_mem hx
        have hk2 := (List.getElem?_eq_some_iff.1 hc).1
        rw [List.length_take] at hk2
        rw [List.getElem?_take_of_lt (by omega)] at hc
        exact (leg_acts t.r hb t.f3 t.d3 hc).2.1 (by omega)
theorem TripW.small {f : Flr} {robot pod : Int} {a b d : Nat} {B : List Int} {Q1 Q2 Q3 : List Nat} (t : TripW f robot pod a b d B Q1 Q2 Q3) (hs : f.s.size ≤ 9223372036854775807) : ∀ x ∈ tripT pod a b Q1 Q2 Q3, x.c ≤ 9223372036854775807 := by
  obtain ⟨ha, hb, hd, _, _, _⟩ := t.lens
  have go : ∀ {fr tg : Nat} {Q : List Nat}, fr < f.s.size → FstW (stepsP f fr B) fr tg Q → ∀ x ∈ goT Q, x.c ≤ 9223372036854775807 := by
    intro fr tg Q hfr h x hx
    obtain ⟨k, c, hc, rfl⟩ := goT_mem hx
    have hk := (List.getElem?_eq_some_iff.1 hc).1
    have w := fst_walkT h (k + 1) (by omega)
    rw [nd_succ hc] at w
    have := wk_sizeT t.r hfr w
    show (c : Int) ≤ _
    omega
  intro x hx
  unfold tripT at hx
  simp only [List.mem_append, List.mem_singleton] at hx
  rcases hx with ((hx | rfl) | (hx | rfl)) | hx
  · exact go hd t.f1 x hx
  · show (a : Int) ≤ _; omega
  · exact go ha t.f2 x hx
  · show (b : Int) ≤ _; omega
  · exact go hb t.f3 x hx
theorem costT_goT (Q : List Nat) : costT (goT Q) = Q.length := by
  unfold costT
  rw [List.filter_eq_self.2, goT_len]
  intro x hx
  obtain ⟨k, b, _, rfl⟩ := goT_mem hx
  rfl
theorem costT_app (l m : List ActT) : costT (l ++ m) = costT l + costT m := by unfold costT; rw [List.filter_append, List.length_append]
theorem costT_trip (pod : Int) (a b : Nat) (Q1 Q2 Q3 : List Nat) : costT (tripT pod a b Q1 Q2 Q3) = Q1.length + Q2.length + Q3.length := by
  unfold tripT
  have e2 : costT [(⟨2, (a : Int), pod⟩ : ActT)] = 0 := rfl
  have e3 : costT [(⟨3, (b : Int), pod⟩ : ActT)] = 0 := rfl
  simp only [costT_app, costT_goT, e2, e3]
  omega
/-- Where a robot stands behind acts. -/
def atT : Int → List ActT → Int
  | c, [] => c
  | c, x :: l => atT (if x.k = 1 then x.c else c) l
theorem atT_snoc (c : Int) (l : List ActT) (x : ActT) : atT c (l ++ [x]) = if x.k = 1 then x.c else atT c l := by
  induction l generalizing c with
  | nil => rfl
  | cons y l ih => exact ih _
theorem doesP_at {f : Flr} {d : Int} {s t : WkS} {x : ActT} (h : doesP f d s x = some t) : t.at_ = if x.k = 1 then x.c else s.at_ := by
  unfold doesP at h
  split at h
  · rename_i hk; rw [if_pos hk]; split at h <;> cases h; rfl
  · rename_i hk
    rw [if_neg hk]
    split at h
    · split at h <;> cases h; rfl
    · split at h
      · split at h <;> cases h; rfl
      · cases h
theorem runP_atT {f : Flr} {d : Int} : ∀ (l : List ActT) {s t : WkS}, runP f d s l = some t → t.at_ = atT s.at_ l := by
  intro l
  induction l with
  | nil => intro s t h; rw [runP] at h; cases h; rfl
  | cons x l ih =>
    intro s t h
    rw [runP] at h
    cases hd : doesP f d s x with
    | none => rw [hd] at h; cases h
    | some u =>
      rw [hd] at h
      rw [ih h, doesP_at hd]; rfl
/-- What is left of right acts is right. -/
theorem left_right {f : Flr} {robot : Int} {d : Nat} {l : List ActT} {t : WkS} (hd : dockP f robot = some d) (h : runP f (d : Int) ⟨(d : Int), -1, false⟩ l = some t) (ht : t.at_ = d) (hp : t.pod < 0) (hl : l.length ≤ 1024) (k : Nat) (hk : k ≤ l.length) :
    rightT f robot (atT d (l.take k)) (l.drop k) = true := by
  rw [← List.take_append_drop k l, runP_append] at h
  cases hs : runP f (d : Int) ⟨(d : Int), -1, false⟩ (l.take k) with
  | none => rw [hs] at h; cases h
  | some s =>
    rw [hs, Option.bind_some] at h
    have ha := runP_atT _ hs
    have hsim : Sim s ⟨s.at_, -1, false⟩ := ⟨rfl, .inr ⟨rfl, rfl⟩⟩
    obtain ⟨t', e, h1, h2⟩ := hsim.run _ h
    have hpl : ∀ j, j ≤ k → ∀ u, runP f (d : Int) ⟨(d : Int), -1, false⟩ (l.take j) = some u → laneB f u.at_ = true ∨ u.at_ = d := by
      intro j
      induction j with
      | zero => intro _ u hu; rw [List.take_zero, runP] at hu; cases hu; exact .inr rfl
      | succ j ih =>
        intro hj u hu
        obtain ⟨x, hx⟩ : ∃ x, l[j]? = some x := ⟨_, List.getElem?_eq_getElem (by omega)⟩
        rw [runP_at hx] at hu
        cases hv : runP f (d : Int) ⟨(d : Int), -1, false⟩ (l.take j) with
        | none => rw [hv] at hu; cases hu
        | some v =>
          rw [hv, Option.bind_some] at hu
          have e := doesP_at hu
          by_cases hk1 : x.k = 1
          · rw [if_pos hk1] at e
            unfold doesP at hu
            rw [if_pos hk1] at hu
            split at hu
            · rename_i hg
              unfold goB at hg
              simp only [Bool.and_eq_true, Bool.or_eq_true, decide_eq_true_eq] at hg
              rw [e]; exact hg.2
            · cases hu
          · rw [if_neg hk1] at e
            rw [e]; exact ih (by omega) v hv
    have hlane := hpl k (Nat.le_refl _) s hs
    unfold rightT
    rw [hd]
    have hat : atT (d : Int) (l.take k) = s.at_ := ha.symm
    simp only [hat, e]
    have hb1 : (laneB f s.at_ || decide (s.at_ = (d : Int))) = true := by simpa using hlane
    have hb2 : (l.drop k).length ≤ 1024 := by rw [List.length_drop]; omega
    have hb3 : t'.at_ = (d : Int) := by rw [h1]; exact ht
    have hb4 : t'.pod < 0 := by rcases h2 with ⟨e2, _⟩ | ⟨e2, _⟩ <;> rw [e2]; exact hp; decide
    rw [hb1]
    simp only [List.length_drop] at hb2
    simp [hb3, hb4]; omega
/-- Each step of a made trip. -/
theorem TripW.each {f : Flr} {robot pod : Int} {a b d : Nat} {B : List Int} {Q1 Q2 Q3 : List Nat} (t : TripW f robot pod a b d B Q1 Q2 Q3) : ∀ (i : Nat) x, (tripT pod a b Q1 Q2 Q3)[i]? = some x → x.k = 1 →
    x.c ∈ ints (nearP f (atT d ((tripT pod a b Q1 Q2 Q3).take i))) ∧ ¬ x.c ∈ B ∧ (laneB f x.c = decide (i + 1 < (tripT pod a b Q1 Q2 Q3).length)) ∧ (laneB f x.c = false → x.c = d) := by
  intro i x hx hk
  have hr := t.run
  obtain ⟨hdl, hB, init, hin, hl⟩ := t.goes
  obtain ⟨l, hll⟩ : ∃ l, l = tripT pod a b Q1 Q2 Q3 := ⟨_, rfl⟩
  rw [← hll] at hx hr hB hin ⊢
  have hi := (List.getElem?_eq_some_iff.1 hx).1
  have h2 := hr
  rw [← List.take_append_drop (i + 1) l, runP_append, runP_at hx] at h2
  cases hs : runP f (d : Int) ⟨(d : Int), -1, false⟩ (l.take i) with
  | none => rw [hs] at h2; cases h2
  | some u =>
    rw [hs, Option.bind_some] at h2
    cases hd : doesP f (d : Int) u x with
    | none => rw [hd] at h2; cases h2
    | some v =>
      have hg : goB f (d : Int) u x = true := by
        unfold doesP at hd
        rw [if_pos hk] at hd
        split at hd
        · assumption
        · cases hd
      unfold goB at hg
      simp only [Bool.and_eq_true, Bool.or_eq_true, decide_eq_true_eq] at hg
      have ha := runP_atT _ hs
      simp only at ha
      refine ⟨by rw [← ha]; exact hg.1.2, hB x (List.mem_of_getElem? hx) hk, ?_, fun h => ?_⟩
      · have hlen : l.length = init.length + 1 := by rw [hin]; simp
        rcases Nat.lt_or_ge i init.length with h | h
        · rw [hin, List.getElem?_append_left h] at hx
          rw [hl x (List.mem_of_getElem? hx) hk]
          symm; simp; omega
        · rw [hin, List.getElem?_append_right h, show i - init.length = 0 by omega] at hx
          simp at hx
          subst hx
          rw [hdl]
          symm; simp; omega
      · rcases hg.2 with h1 | h1
        · rw [h] at h1; cases h1
        · exact h1
end Go.Proofs.YtmipnicdlldjnaaDoor

namespace Go.Proofs.YtmipnicdlldjnaaDoor
set_option linter.unusedVariables false
set_option linter.unusedSimpArgs false
open Go.RowKit

set_option maxHeartbeats 4000000 in
set_option maxRecDepth 100000 in
theorem goes_row (x : Cb) {w : World} (hx : x.Ok w) : Calls Tryd.prog 3 #[x.val] w fun e w' => e = .returned (.bool true) ∧ Kp No w w' := by
  have HSH := Lib.hid shown10_any
  obtain ⟨t, ht⟩ : ∃ t, t = (decide (x.f.s.size ≤ 60) && decide (x.B.length ≤ 30)) := ⟨_, rfl⟩
  have SM := Lib.hid (small10_any x hx t ht)
  have H60 := Lib.hid (show t = true → x.f.s.size ≤ 60 ∧ x.B.length ≤ 30 by intro e; rw [ht] at e; simpa using e)
  obtain ⟨f, rb, pod, fr, tg, bv, B⟩ := x
  obtain ⟨hsz, hrb, hfr, htg, hB⟩ := hx
  simp only at hsz hrb hfr htg hB H60
  unfold Cb.val at SM ⊢
  simp only at SM ⊢
  obtain ⟨F, hF⟩ : ∃ F, F = f := ⟨_, rfl⟩
  have HF := Lib.hid hF
  rw [← hF] at H60
  have MK := Lib.hid (fun (h60 : F.s.size ≤ 60) wx (hk : Kp No w wx) => tpMake_any F (by omega) rb pod fr tg hrb hfr htg (hB.kpNo hk))
  have DK := Lib.hid (fun (h60 : F.s.size ≤ 60) wx => dock_any F (by omega) rb hrb wx)
  have ZN := Lib.hid (fun (h60 : F.s.size ≤ 60) (c : Int) (hc : c ≤ 9223372036854775807) wx => zone_any F (by omega) c hc wx)
  have NE := Lib.hid (fun (h60 : F.s.size ≤ 60) (c : Int) (hc : c ≤ 9223372036854775807) wx => near_any F (by omega) c hc wx)
  obtain ⟨X, Y, s⟩ := f
  simp only at SM ⊢
  have HV := Lib.hid (show F.val = .agg #[.int .i64 X, .int .i64 Y, .string s] by rw [hF]; rfl)
  rw [HV.out] at MK DK ZN NE
  obtain ⟨w1, hw1⟩ : ∃ y : World, y = w.alloc (.cells #[.int .i64 X, .int .i64 Y, .string s, .int .i64 rb, .int .i64 pod, .int .i64 fr, .int .i64 tg, bv] 26) := ⟨_, rfl⟩
  have BX := Lib.hid (show w1.heap[w.heap.size]? = some (.cells #[.int .i64 X, .int .i64 Y, .string s, .int .i64 rb, .int .i64 pod, .int .i64 fr, .int .i64 tg, bv] 26 (0, 0)) by rw [hw1]; exact blk_new w _)
  have KB := Lib.hid (show Kp No w w1 by rw [hw1]; exact (Kp.refl _ _).alloc _)
  have HB := Lib.hid (fun wx (hk : Kp No w1 wx) => hB.kpNo (KB.out.no hk))
  have HW1 := Lib.hid hw1
  have LB := Lib.hid (fun wx (hk : Kp No w1 wx) => case10_cells BX.out hk)
  clear hsz hrb hfr htg hB ht hF hw1
  go_enter Tryd.func3, Tryd.ntmps3
  go_upto_region 1 with fail
  rw [← HW1.out]
  go_wp2_with fail
  refine (HSH.out _).mono ?_
  rintro e w2 ⟨rfl, k2⟩
  have K2 := Lib.hid k2
  clear k2
  obtain ⟨c0, c1, c2, c3, c4, c5, c6, c7⟩ := LB.out w2 K2.out
  go_wp2_with fail
  refine (SM.out _).mono ?_
  rintro e w3 ⟨rfl, k3⟩
  have K3 := Lib.hid (K2.out.no k3)
  clear k3 c0 c1 c2 c3 c4 c5 c6 c7
  cases t with
  | false =>
    go_wp2_with fail
    go_ret
    exact ⟨rfl, KB.out.no K3.out⟩
  | true =>
    obtain ⟨h60, h30⟩ := H60.out (by first | rfl | trivial)
    have HC := Lib.hid h60
    have HC30 := Lib.hid h30
    clear h60 h30
    obtain ⟨c0, c1, c2, c3, c4, c5, c6, c7⟩ := LB.out w3 K3.out
    go_wp2_with fail
    refine (MK.out HC.out _ (KB.out.no K3.out)).mono ?_
    rintro e w4 ⟨out, Ao, qo, er, hm, rfl, no⟩
    have NO := Lib.hid no
    have HM := Lib.hid hm
    have K4 := Lib.hid (K3.out.no no.kp)
    have HER := Lib.hid (show er = 0 ∨ (er = 1 ∧ out = []) ∨ (er = 2 ∧ out = []) by cases hm <;> simp)
    clear hm no c0 c1 c2 c3 c4 c5 c6 c7
    by_cases he : er ≠ 0
    · have HEE := Lib.hid (show (er = 1 ∨ er = 2) by rcases HER.out with h | ⟨h, h2⟩ | ⟨h, h2⟩; exact absurd h he; exact .inl h; exact .inr h)
      rcases HEE.out with rfl | rfl
      all_goals
        go_wp2_with fail
        go_ret
        exact ⟨rfl, KB.out.no K4.out⟩
    have he : er = 0 := by omega
    subst he
    obtain ⟨a, b, d, Q1, Q2, Q3, hfa, hgb, hout, tw⟩ := made_trip HM.out rfl
    subst hfa hgb
    have D1 := Lib.hid (show ∀ wx, Calls Tryd.prog 10 #[.agg #[.int .i64 X, .int .i64 Y, .string s], .int .i64 rb] wx fun e w' => e = .returned (.tuple #[.int .i64 (d : Int), .bool true]) ∧ Kp No wx w' from fun wx => by have h := DK.out HC.out wx; rw [tw.dk] at h; exact h)
    have HMB := Lib.hid (show ∀ x ∈ out, x.c ≤ 9223372036854775807 by rw [hout]; exact tw.small (by have := HC.out; omega))
    have GS := Lib.hid (show ∀ (i : Nat) x, out[i]? = some x → x.k = 1 → x.c ∈ ints (nearP F (atT d (out.take i))) ∧ ¬ x.c ∈ B ∧ (laneB F x.c = decide (i + 1 < out.length)) ∧ (laneB F x.c = false → x.c = d) by rw [hout]; exact tw.each)
    have GE := Lib.hid (show atT d out = d by rw [hout]; exact (runP_atT _ tw.run).symm)
    have DM := Lib.hid (show (d : Int) ≤ 9223372036854775807 by have := tw.lens; have := HC.out; omega)
    obtain ⟨n, hn⟩ : ∃ z, z = out.length := ⟨_, rfl⟩
    have hn2 : 2 ≤ n ∧ n ≤ 1000 := by rw [hn, hout, tripT_len]; have := tw.lens; omega
    have HN := Lib.hid hn
    rw [← hn] at GS
    have NO2 := Lib.hid (show NewS AcK 36 w3 w4 (.slice Ao n qo) out by rw [hn]; exact NO.out)
    have hn0 : ((n : Int) == 0) = false := by simp; omega
    have hwn : IntKind.i64.wrap ((n : Int) - 1) = (n : Int) - 1 := IntWalk.i64_in _ (by omega)
    rw [← hn]
    obtain ⟨c0, c1, c2, c3, c4, c5, c6, c7⟩ := LB.out w4 K4.out
    clear hout tw hn
    go_wp2_with fail
    refine (D1.out _).mono ?_
    rintro e w5 ⟨rfl, k5⟩
    have K5 := Lib.hid (K4.out.no k5)
    have OW := Lib.hid (show Rd AcK w5 (.slice Ao n qo) out from NO2.out.own.rd.kpNo k5)
    clear k5 c0 c1 c2 c3 c4 c5 c6 c7
    go_wp2_with fail
    go_loopg [6, 60] (n + 1) (fun g_ av iv wx => ∃ (i : Nat) (at_ : Int), g_ = n + 1 - i ∧ iv = .int .i64 (i : Int) ∧ i ≤ n ∧ av = .int .i64 at_ ∧ at_ = atT d (out.take i) ∧ at_ ≤ 9223372036854775807 ∧ Kp No w5 wx)
    case atStart => exact ⟨0, d, rfl, rfl, by omega, rfl, rfl, DM.out, Kp.refl _ _⟩
    case round =>
      obtain ⟨i, at_, hg, rfl, hi, rfl, hat, ham, kp⟩ := hrel
      have HAT := Lib.hid hat; have HAM := Lib.hid ham; have KP := Lib.hid kp
      clear hat ham kp
      by_cases hlt : i < n
      · have hltI : (i : Int) < (n : Int) := by omega
        have hwi : IntKind.i64.wrap ((i : Int) + 1) = (i : Int) + 1 := IntWalk.i64_in _ (by omega)
        obtain ⟨x, hx⟩ : ∃ x, out[i]? = some x := ⟨_, List.getElem?_eq_getElem (by rw [← HN.out]; exact hlt)⟩
        rcases (OW.out.kpNo KP.out) with ⟨_, he⟩ | ⟨g, o, cap', hv, _⟩
        · have := HN.out; rw [he, List.length_nil] at this; omega
        simp only [Value.slice.injEq] at hv
        obtain ⟨rfl, hzz, rfl⟩ := hv
        obtain ⟨x0, x1, x2, x3⟩ := (OW.out.kpNo KP.out).actAt hx
        have K1 := Lib.hid (show ∀ o, Kp No w5 (wr.alloc o) from fun o => KP.out.alloc o)
        have HS := Lib.hid (show atT d (out.take (i + 1)) = if x.k = 1 then x.c else at_ by rw [List.take_add_one, hx, HAT.out]; exact atT_snoc _ _ _)
        by_cases hk1 : x.k = 1
        · have hk1b : ((x.k : Int) != 1) = false := by simp; omega
          obtain ⟨g1, g2, g3, g4⟩ := GS.out i x hx hk1
          rw [← HAT.out] at g1
          have HS2 := Lib.hid (show x.c = atT d (out.take (i + 1)) by rw [HS.out, if_pos hk1])
          have HXM := Lib.hid (HMB.out x (List.mem_of_getElem? hx))
          obtain ⟨L, hL⟩ : ∃ L, L = ints (nearP F at_) := ⟨_, rfl⟩
          have NX := Lib.hid (NE.out HC.out at_ HAM.out)
          rw [← hL] at NX g1
          obtain ⟨Z, hZ⟩ : ∃ Z, zoneP F x.c = Z := ⟨_, rfl⟩
          obtain ⟨zn, hzn⟩ : ∃ z : Nat, z = Z.getD 0 := ⟨_, rfl⟩
          obtain ⟨ln, hln⟩ : ∃ z : Bool, laneB F x.c = z := ⟨_, rfl⟩
          have ZX := Lib.hid (show ∀ wx, Calls Tryd.prog 12 #[.agg #[.int .i64 X, .int .i64 Y, .string s], .int .i64 x.c] wx fun e w' => e = .returned (.tuple #[.int .i64 (zn : Int), .bool ln]) ∧ Kp No wx w' from fun wx => by
            have h1 := ZN.out HC.out x.c HXM.out wx
            have e : ZVal (zoneP F x.c) = .tuple #[.int .i64 (zn : Int), .bool ln] := by unfold ZVal; rw [← hln]; unfold laneB; rw [hZ, ← hzn]
            rwa [e] at h1)
          rw [hln] at g3 g4
          have G1 := Lib.hid g1; have G2 := Lib.hid g2; have G3 := Lib.hid g3; have G4 := Lib.hid g4
          obtain ⟨wa, hwa⟩ : ∃ y : World, y = wr.alloc (.cells #[.int .u8 (x.k : Int), .int .i64 x.c, .int .i64 x.p] 36) := ⟨_, rfl⟩
          have HWA := Lib.hid hwa
          have XB := Lib.hid (fun wx (hk : Kp No wa wx) => by
            have b : wx.heap[wr.heap.size]? = some (.cells #[.int .u8 (x.k : Int), .int .i64 x.c, .int .i64 x.p] 36 (0, 0)) := hk.blk (by rw [hwa]; exact blk_new _ _) (no_no _)
            exact (blk_cell b 1 : wx.cell? ⟨wr.heap.size, 1, none⟩ = some (.int .i64 x.c)))
          have KA := Lib.hid (show Kp No w5 wa by rw [hwa]; exact K1.out _)
          have cc := fun o => LB.out (wr.alloc o) (K5.out.no (K1.out o))
          clear hx hzz hlt hk1 g1 g2 g3 g4 hL hZ hzn hln hwa
          go_wp2_with fail
          rw [← HWA.out]
          refine (NX.out _).mono ?_
          rintro e w6 ⟨vN, rfl, nN⟩
          obtain ⟨AN, qN, rfl⟩ := nN.own.rd.shape
          obtain ⟨nl, hnl⟩ : ∃ z, z = L.length := ⟨_, rfl⟩
          have hll := nN.own.rd.lenI
          unfold maxLen at hll
          rw [← hnl] at nN hll ⊢
          have HNL := Lib.hid hnl
          have RN := Lib.hid nN.own.rd
          have K6 := Lib.hid nN.kp
          clear nN hnl x0 x1 x2 x3 cc
          go_wp2_with fail
          go_loopg [11, 73] (nl + 1) (fun gg bv2 jv wx => ∃ j : Nat, gg = nl + 1 - j ∧ jv = .int .i64 (j : Int) ∧ j ≤ nl ∧ bv2 = .bool (decide (x.c ∈ L.take j)) ∧ Kp No w6 wx)
          case atStart => exact ⟨0, rfl, rfl, by omega, by simp, Kp.refl _ _⟩
          case round =>
            obtain ⟨j, hg2, rfl, hj, rfl, kp2⟩ := hrel
            have KP2 := Lib.hid kp2
            clear kp2
            obtain ⟨nb, hnb⟩ : ∃ z, decide (x.c ∈ L.take j) = z := ⟨_, rfl⟩
            rw [hnb]
            have HNB := Lib.hid hnb
            clear hnb
            by_cases hltj : j < nl
            · have hltJ : (j : Int) < (nl : Int) := by omega
              have hwj : IntKind.i64.wrap ((j : Int) + 1) = (j : Int) + 1 := IntWalk.i64_in _ (by omega)
              obtain ⟨y, hy⟩ : ∃ y, L[j]? = some y := ⟨_, List.getElem?_eq_getElem (by rw [← HNL.out]; exact hltj)⟩
              rcases (RN.out.kpNo KP2.out) with ⟨_, he⟩ | ⟨gN, oN, capN, hv, _⟩
              · have := HNL.out; rw [he, List.length_nil] at this; omega
              simp only [Value.slice.injEq] at hv
              obtain ⟨rfl, hzz, rfl⟩ := hv
              have hcy := (RN.out.kpNo KP2.out).intAt hy
              have hxc := XB.out _ (K6.out.no KP2.out)
              obtain ⟨ey, hey⟩ : ∃ z, (y == x.c) = z := ⟨_, rfl⟩
              have HY := Lib.hid (show decide (x.c ∈ L.take (j + 1)) = (nb || ey) by
                rw [List.take_add_one, hy, ← HNB.out, ← hey]
                by_cases h : y = x.c
                · simp [h]
                · have h2 : x.c ≠ y := fun e => h e.symm
                  simp [h, h2])
              clear hy hzz hltj
              cases nb <;> cases ey
              all_goals
                go_wp2_with fail
                go_roundg (nl + 1 - (j + 1))
                case measure => omega
                case rel => exact ⟨j + 1, rfl, by go_num, by omega, by rw [HY.out]; rfl, KP2.out⟩
            · obtain rfl : nl = j := by omega
              have hd0 : ¬ (nl : Int) < (nl : Int) := by omega
              obtain rfl : nb = true := by have := HNB.out; rw [HNL.out, List.take_length] at this; rw [← this]; simpa using G1.out
              have KW := Lib.hid (K5.out.no (KA.out.no (K6.out.no KP2.out)))
              have RB := Lib.hid (HB.out _ KW.out)
              obtain ⟨Ab, qb, rfl⟩ := RB.out.shape
              obtain ⟨nB, hnB⟩ : ∃ z, z = B.length := ⟨_, rfl⟩
              have hBl := RB.out.lenI
              unfold maxLen at hBl
              have HNB2 := Lib.hid hnB
              rw [← hnB] at hBl LB
              have RB2 := Lib.hid (show Rd IK wr (.slice Ab nB qb) B by rw [hnB]; exact RB.out)
              obtain ⟨c0, c1, c2, c3, c4, c5, c6, c7⟩ := LB.out _ KW.out
              clear hltj hnB
              go_wp2_with fail
              clear c0 c1 c2 c3 c4 c5 c6 c7
              go_loopg [11, 88] (nB + 1) (fun gg bv2 jv wx => ∃ j : Nat, gg = nB + 1 - j ∧ jv = .int .i64 (j : Int) ∧ j ≤ nB ∧ bv2 = .bool true ∧ Kp No w6 wx)
              case atStart => exact ⟨0, rfl, rfl, by omega, rfl, KP2.out⟩
              case round =>
                obtain ⟨j, hg3, rfl, hj3, rfl, kp3⟩ := hrel
                have KP3 := Lib.hid kp3
                have KW3 := Lib.hid (K5.out.no (KA.out.no (K6.out.no kp3)))
                clear kp3
                have RB3 := Lib.hid (show Rd IK wr (.slice Ab nB qb) B by rw [HNB2.out]; exact HB.out _ KW3.out)
                have hxc := XB.out _ (K6.out.no KP3.out)
                by_cases hltj : j < nB
                · have hltJ : (j : Int) < (nB : Int) := by omega
                  have hwj : IntKind.i64.wrap ((j : Int) + 1) = (j : Int) + 1 := IntWalk.i64_in _ (by omega)
                  obtain ⟨y, hy⟩ : ∃ y, B[j]? = some y := ⟨_, List.getElem?_eq_getElem (by rw [← HNB2.out]; exact hltj)⟩
                  rcases RB3.out with ⟨_, he⟩ | ⟨gN, oN, capN, hv, _⟩
                  · have := HNB2.out; rw [he, List.length_nil] at this; omega
                  simp only [Value.slice.injEq] at hv
                  obtain ⟨rfl, hzz, rfl⟩ := hv
                  have hcy := RB3.out.intAt hy
                  have hney : (y != x.c) = true := by rw [bne_iff_ne]; rintro rfl; exact G2.out (List.mem_of_getElem? hy)
                  clear hy hzz hltj
                  go_wp2_with fail
                  go_roundg (nB + 1 - (j + 1))
                  case measure => omega
                  case rel => exact ⟨j + 1, rfl, by go_num, by omega, rfl, KP3.out⟩
                · obtain rfl : nB = j := by omega
                  have hd0 : ¬ (nB : Int) < (nB : Int) := by omega
                  obtain ⟨c0, c1, c2, c3, c4, c5, c6, c7⟩ := LB.out _ KW3.out
                  clear hltj
                  go_wp2_with fail
                  refine (ZX.out _).mono ?_
                  rintro e w7 ⟨rfl, k7⟩
                  have K7 := Lib.hid (KP3.out.no k7)
                  have hxc := XB.out _ (K6.out.no K7.out)
                  clear k7 c0 c1 c2 c3 c4 c5 c6 c7
                  have hie : ((i : Int) == (n : Int) - 1) = !ln := by rw [G3.out]; by_cases h : i + 1 < n <;> simp [h] <;> omega
                  cases ln
                  · have hxd : (x.c != (d : Int)) = false := by rw [G4.out rfl]; simp
                    go_wp2_with fail
                    go_roundg (n + 1 - (i + 1))
                    case measure => omega
                    case rel => exact ⟨i + 1, x.c, rfl, by go_num, by omega, rfl, HS2.out, HXM.out, KA.out.no (K6.out.no K7.out)⟩
                  · go_wp2_with fail
                    go_roundg (n + 1 - (i + 1))
                    case measure => omega
                    case rel => exact ⟨i + 1, x.c, rfl, by go_num, by omega, rfl, HS2.out, HXM.out, KA.out.no (K6.out.no K7.out)⟩
        · have hk1b : ((x.k : Int) != 1) = true := by simp; omega
          have HS2 := Lib.hid (show at_ = atT d (out.take (i + 1)) by rw [HS.out, if_neg hk1])
          clear hx hzz hlt hk1
          go_wp2_with fail
          go_roundg (n + 1 - (i + 1))
          case measure => omega
          case rel => exact ⟨i + 1, at_, rfl, by go_num, by omega, rfl, HS2.out, HAM.out, K1.out _⟩
      · obtain rfl : n = i := by omega
        have hd0 : ¬ (n : Int) < (n : Int) := by omega
        obtain rfl : at_ = d := by have := HAT.out; rw [HN.out, List.take_length, GE.out] at this; exact this
        clear hlt
        go_wp2_with fail
        go_ret
        exact ⟨by simp, KB.out.no (K5.out.no KP.out)⟩
end Go.Proofs.YtmipnicdlldjnaaDoor
