/- sipp.came; sipp.run: what it holds in memory; sipp.run: a stay is looked at; sipp.run; sipp.Soon; slices.Reverse of steps; sipp.Plan, plain: what it answers; path, plain: ways reckoned by hand. No function of the program; Ways through time, plain: reckoned, levels given. No function of the program; The plans of carfaxlaw07.shown, reckoned. No function of the program. No condition. -/
import Derived.Test.YtgdokpfepfmbmaaDoorM8
import Derived.Test.YtgdokpfepfmbmaaDoorM6
import Derived.Deep.RegionHeld3
import Derived.BigRegion
import Derived.Deep.LoopGhost
import Derived.Test.YtgdokpfepfmbmaaDoorM7

namespace Go.Proofs.YtgdokpfepfmbmaaDoor
set_option linter.unusedVariables false
set_option linter.unusedSimpArgs false
open Go.RowKit

def SeP.ok (Z : SeP) (c : Nat) : Bool := decide (kdS Z.f.s c = 2) || decide (c = Z.fr)
/-- From where the robot came, by the stays. -/
noncomputable def cmU (Z : SeP) (U : Int → List Sty) (m : Int) (a : Nat) : Option Nat := (nearP Z.f a).find? fun c => Z.ok c && (U c).any (inM m)
def optI (o : Option Nat) : Int := match o with | some c => (c : Int) | none => -1
theorem find_at {p : Nat → Bool} {l : List Nat} {j c : Nat} (hc : l[j]? = some c) (hp : p c = true) (hb : ∀ (i x : Nat), i < j → l[i]? = some x → p x = false) : l.find? p = some c := by
  rw [List.find?_eq_some_iff_getElem]
  have hl := (List.getElem?_eq_some_iff.1 hc).1
  refine ⟨hp, j, hl, (List.getElem?_eq_some_iff.1 hc).2, fun i hi => ?_⟩
  have := hb i _ hi (List.getElem?_eq_getElem (by omega))
  simpa using this
theorem find_no {p : Nat → Bool} {l : List Nat} (hb : ∀ (i x : Nat), i < l.length → l[i]? = some x → p x = false) : l.find? p = none := by
  rw [List.find?_eq_none]
  intro x hx
  obtain ⟨i, hi⟩ := List.mem_iff_getElem?.1 hx
  simp [hb i x (List.getElem?_eq_some_iff.1 hi).1 hi]
set_option maxHeartbeats 1000000 in
set_option maxRecDepth 100000 in
theorem spcame_any {Z : SeP} {last : Int} {U : Int → List Sty} {F : Nat → Prop} {w : World} (hc : SeC Z w) (hv : SeV Z last U F w) (a : Nat) (ha : a < Z.n) (m : Int) (hm : 0 ≤ m ∧ m ≤ 4194304) (r : Option Nat) (hr : cmU Z U (m - 1) a = r) :
    Calls Tryd.prog 47 #[.pointer (some ⟨Z.p, 0, none⟩), .int .i64 (a : Int), .int .i64 m] w fun e w' => e = .returned (.int .i64 (optI r)) ∧ Kp No w w' := by
  obtain ⟨gn, on_, vn, en, hvn, hnc, hnr⟩ := hc.near ha
  obtain ⟨An, ln0, qn⟩ := vn
  have hll : ln0 = (nearP Z.f a).length := by
    obtain ⟨A', c', e⟩ := hnr.shape
    unfold slv at e
    simp only [Value.slice.injEq] at e
    rw [e.2.1, ints_len]
  have hl4 : ln0 ≤ 4 := by rw [hll]; exact near_len4 _ _
  obtain ⟨NL, hNL⟩ : ∃ l, l = nearP Z.f a := ⟨_, rfl⟩
  have HNL := Lib.hid hNL
  rw [← hNL] at hnr hll
  have RN := Lib.hid hnr
  have HL0 := Lib.hid hll
  unfold slv at RN hnc
  have HC := Lib.hid hc; have HV := Lib.hid hv; have HR := Lib.hid hr
  have c0 := hv.c0
  rw [en] at c0
  have hxn : (a : Int) < (Z.n : Int) := by omega
  have hx0 : (0 : Int) ≤ (a : Int) := by omega
  have hwm : IntKind.i64.wrap (m - 1) = m - 1 := IntWalk.i64_in _ (by omega)
  have HA := Lib.hid ha
  clear hc hv hr hNL hll hnr hvn en ha hm
  go_enter Tryd.func47, Tryd.ntmps47
  go_wp2_with fail
  go_loopg [17] (ln0 + 1) (fun g_ iv wx => ∃ j : Nat, g_ = ln0 + 1 - j ∧ iv = .int .i64 j ∧ j ≤ ln0 ∧ (∀ (i x : Nat), i < j → NL[i]? = some x → (Z.ok x && (U x).any (inM (m - 1))) = false) ∧ Kp No w wx)
  case atStart => exact ⟨0, rfl, rfl, by omega, fun i x hi => by omega, Kp.refl _ _⟩
  case round =>
    obtain ⟨j, hg, rfl, hj, hno, kp⟩ := hrel
    have NO := Lib.hid hno; have KP := Lib.hid kp
    clear hno kp c0 hnc
    by_cases hlt : j < ln0
    · have hltI : (j : Int) < (ln0 : Int) := by omega
      have hwj : IntKind.i64.wrap ((j : Int) + 1) = (j : Int) + 1 := IntWalk.i64_in _ (by omega)
      obtain ⟨c, hcc⟩ : ∃ c, NL[j]? = some c := ⟨_, List.getElem?_eq_getElem (by rw [← HL0.out]; exact hlt)⟩
      rcases (RN.out.kpNo KP.out) with ⟨_, he⟩ | ⟨g, o, cap', hv, _⟩
      · have := congrArg List.length he; rw [ints_len, ← HL0.out] at this; simp at this; omega
      simp only [Value.slice.injEq] at hv
      obtain ⟨rfl, hzz, rfl⟩ := hv
      have hcb : wr.cell? ⟨g, o + j, none⟩ = some (.int .i64 (c : Int)) := (RN.out.kpNo KP.out).intAt (ints_get hcc)
      have hcn : c < Z.n := by rw [HC.out.hn]; exact near_sz HC.out.rt (by rw [← HC.out.hn]; exact HA.out) (by rw [← HNL.out]; exact List.mem_of_getElem? hcc)
      obtain ⟨gl, ol, el, hlc⟩ := (HC.out.no KP.out).lane hcn
      have V1 := HV.out.no KP.out
      have c1 := V1.c1
      have c4 := V1.c4
      rw [el] at c1
      have hcI : (c : Int) < (Z.n : Int) := by omega
      obtain ⟨lb, hlb⟩ : ∃ b, decide (kdS Z.f.s c = 2) = b := ⟨_, rfl⟩
      rw [hlb] at hlc
      obtain ⟨fb, hfb⟩ : ∃ b, ((c : Int) == (Z.fr : Int)) = b := ⟨_, rfl⟩
      obtain ⟨t, ht⟩ : ∃ t, (U c).any (inM (m - 1)) = t := ⟨_, rfl⟩
      have CA := Lib.hid (spcan_any V1 (c : Int) (m - 1) t ht)
      have HOK := Lib.hid (show Z.ok c = (lb || fb) by
        unfold SeP.ok
        rw [hlb, ← hfb]
        congr 1
        by_cases e : c = Z.fr
        · simp [e]
        · have : ((c : Int) == (Z.fr : Int)) = false := by simp; omega
          rw [this]; simp [e])
      have HT := Lib.hid ht
      have HCC := Lib.hid hcc
      clear hzz hcc hlt hlb ht V1 hcn el
      have hcases : (lb = true) ∨ (lb = false ∧ fb = true) ∨ (lb = false ∧ fb = false) := by cases lb <;> cases fb <;> simp
      have GO := Lib.hid (show (lb || fb) = true → t = true → optI r = (c : Int) from fun h1 h2 => by
        have : cmU Z U (m - 1) a = some c := find_at (by rw [← HNL.out]; exact HCC.out) (by rw [HOK.out, HT.out, h1, h2]; rfl) (fun i x hi hx => NO.out i x hi (by rw [HNL.out]; exact hx))
        rw [← HR.out, this]; rfl)
      have NX := Lib.hid (show ((lb || fb) && t) = false → ∀ (i x : Nat), i < j + 1 → NL[i]? = some x → (Z.ok x && (U x).any (inM (m - 1))) = false from fun h1 i x hi hx => by
        by_cases e : i = j
        · subst e
          rw [HCC.out] at hx; cases hx
          rw [HOK.out, HT.out]; exact h1
        · exact NO.out i x (by omega) hx)
      rcases hcases with rfl | ⟨rfl, rfl⟩ | ⟨rfl, rfl⟩
      · go_wp2_with fail
        refine CA.out.mono ?_
        rintro e w1 ⟨rfl, k1⟩
        have K1 := Lib.hid (KP.out.no k1)
        clear k1
        cases t with
        | true =>
          go_wp2_with fail
          go_ret
          exact ⟨by rw [GO.out (by simp) (by simp)]; rfl, K1.out⟩
        | false =>
          go_wp2_with fail
          go_roundg (ln0 + 1 - (j + 1))
          case measure => omega
          case rel => exact ⟨j + 1, rfl, by go_num, by omega, NX.out (by simp), K1.out⟩
      · go_wp2_with fail
        refine CA.out.mono ?_
        rintro e w1 ⟨rfl, k1⟩
        have K1 := Lib.hid (KP.out.no k1)
        clear k1
        cases t with
        | true =>
          go_wp2_with fail
          go_ret
          exact ⟨by rw [GO.out (by simp) (by simp)]; rfl, K1.out⟩
        | false =>
          go_wp2_with fail
          go_roundg (ln0 + 1 - (j + 1))
          case measure => omega
          case rel => exact ⟨j + 1, rfl, by go_num, by omega, NX.out (by simp), K1.out⟩
      · go_wp2_with fail
        go_roundg (ln0 + 1 - (j + 1))
        case measure => omega
        case rel => exact ⟨j + 1, rfl, by go_num, by omega, NX.out (by simp), KP.out⟩
    · obtain rfl : j = ln0 := by omega
      have hd0 : ¬ (j : Int) < (j : Int) := by omega
      have HE := Lib.hid (show optI r = -1 by
        have : cmU Z U (m - 1) a = none := find_no (fun i x hi hx => NO.out i x (by rw [HL0.out, HNL.out]; exact hi) (by rw [HNL.out]; exact hx))
        rw [← HR.out, this]; rfl)
      clear hlt
      go_wp2_with fail
      go_ret
      exact ⟨by rw [HE.out]; rfl, KP.out⟩
end Go.Proofs.YtgdokpfepfmbmaaDoor

namespace Go.Proofs.YtgdokpfepfmbmaaDoor
set_option linter.unusedVariables false
set_option linter.unusedSimpArgs false
open Go.RowKit

structure RnS (Z : SeP) (last : Int) (w0 : World) (ph : Nat) (VH : Value) (nx : Nat) (ME : List Ent) (all S : List Sty) (VA : Value) (U : Int → List Sty) (F : Nat → Prop) (w : World) : Prop where
  cs : SeC Z w
  vr : SeV Z last U F w
  us : ∀ c : Nat, U c = S.filter fun y => decide (y.c = c)
  hm : HpM ph VH nx ME w
  pos : ∀ e ∈ ME, 0 ≤ e.v
  al : Own SyK 100 w VA all
  nF : ∀ k, F k → k ≠ ph ∧ VH.ownBlock ≠ some k ∧ VA.ownBlock ≠ some k
  nH : ∀ g, VH.ownBlock = some g → w0.heap.size ≤ g ∧ VA.ownBlock ≠ some g
  nA : ∀ g, VA.ownBlock = some g → w0.heap.size ≤ g ∧ g ≠ ph
  gp : w0.heap.size ≤ ph
  b1 : Z.b1 ≤ w0.heap.size
  gF : ∀ k, F k → k = Z.ms ∨ w0.heap.size ≤ k
  kp : Kp (fun k => k = Z.ms) w0 w
section
variable {Z : SeP} {last : Int} {w0 w w' : World} {ph nx : Nat} {VH VA V' : Value} {ME : List Ent} {all S : List Sty} {U : Int → List Sty} {F F' : Nat → Prop}
theorem RnS.no (h : RnS Z last w0 ph VH nx ME all S VA U F w) (hk : Kp No w w') : RnS Z last w0 ph VH nx ME all S VA U F w' :=
  ⟨h.cs.no hk, h.vr.no hk, h.us, h.hm.no hk, h.pos, h.al.kpNo hk, h.nF, h.nH, h.nA, h.gp, h.b1, h.gF, h.kp.no hk⟩
/-- A block that is none of those that the search changes. -/
def RnS.off (_ : RnS Z last w0 ph VH nx ME all S VA U F w) (b : Nat) : Prop := b ≠ ph ∧ VH.ownBlock ≠ some b ∧ VA.ownBlock ≠ some b ∧ ¬ F b
theorem RnS.offNew (h : RnS Z last w0 ph VH nx ME all S VA U F w) {b : Nat} (hb : w.heap.size ≤ b) : b ≠ ph ∧ VH.ownBlock ≠ some b ∧ VA.ownBlock ≠ some b ∧ ¬ F b :=
  ⟨by have := h.hm.lt; omega, fun e => by have := h.hm.vlt b e; omega, fun e => by have := h.al.lt e; omega, fun e => by have := h.vr.rs.lt b e; omega⟩
theorem RnS.pLt (h : RnS Z last w0 ph VH nx ME all S VA U F w) : Z.p < Z.b1 ∧ Z.ms < Z.b1 ∧ Z.p ≠ Z.ms := ⟨h.cs.lt.1, h.cs.lt.2.1, h.cs.lt.2.2.1⟩
/-- A block that the search does not know is changed. -/
theorem RnS.offK (h : RnS Z last w0 ph VH nx ME all S VA U F w) {b : Nat} (ho : b ≠ ph ∧ VH.ownBlock ≠ some b ∧ VA.ownBlock ≠ some b ∧ ¬ F b) (hg : w0.heap.size ≤ b) (hk : Kp (fun j => j = b) w w') : RnS Z last w0 ph VH nx ME all S VA U F w' := by
  have hl := h.pLt
  have hb := h.b1
  exact ⟨h.cs.kp hk fun k e => .inr (.inr (by omega)), h.vr.kp hk (fun e => by have e : Z.p = b := e; omega) (fun k hk2 e => ho.2.2.2 (by have e : k = b := e; rw [← e]; exact hk2)), h.us, h.hm.kp hk (fun e => ho.1 (by have e : ph = b := e; omega)) (fun g hg2 e => ho.2.1 (by have e : g = b := e; rw [← e]; exact hg2)), h.pos, h.al.kp hk (fun g hg2 e => ho.2.2.1 (by have e : g = b := e; rw [← e]; exact hg2)), h.nF, h.nH, h.nA, h.gp, h.b1, h.gF, h.kp.trans' hk fun j hj e => by have e : j = b := e; omega⟩
/-- The heap is changed. -/
theorem RnS.heap {VH' : Value} {nx' : Nat} {ME' : List Ent} (h : RnS Z last w0 ph VH nx ME all S VA U F w) (hp : HpP ph VH VH' w w') (hm : HpM ph VH' nx' ME' w') (pos : ∀ e ∈ ME', 0 ≤ e.v) : RnS Z last w0 ph VH' nx' ME' all S VA U F w' := by
  have hl := h.pLt
  have new : ∀ j, (fun k => k = ph ∨ VH.ownBlock = some k) j → w0.heap.size ≤ j := fun j e => by
    rcases e with e | e
    · have := h.gp; omega
    · exact (h.nH j e).1
  refine ⟨h.cs.kp hp.kp fun k e => .inr (.inr (by have := new k e; have := h.b1; omega)), h.vr.kp hp.kp (fun e => by have := new _ e; have := h.b1; omega) (fun k hk e => ?_), h.us, hm, pos, h.al.kp hp.kp (fun g hg e => ?_), fun k hk => ?_, fun g hg => ?_, h.nA, h.gp, h.b1, h.gF, h.kp.trans' hp.kp fun j hj e => ?_⟩
  · obtain ⟨a, b, _⟩ := h.nF k hk
    rcases e with e | e
    · exact a e
    · exact b e
  · rcases e with e | e
    · exact (h.nA g hg).2 e
    · exact (h.nH g e).2 hg
  · obtain ⟨a, b, c⟩ := h.nF k hk
    refine ⟨a, fun e => ?_, c⟩
    rcases hp.ge k e with e2 | e2
    · exact b e2
    · have := h.vr.rs.lt k hk; omega
  · rcases hp.ge g hg with e2 | e2
    · exact h.nH g e2
    · exact ⟨by have := h.kp.size; omega, fun e => by have := h.al.lt e; omega⟩
  · have := new j e; omega
/-- One more is found. -/
theorem RnS.found {y : Sty} (h : RnS Z last w0 ph VH nx ME all S VA U F w) (ho : Own SyK 100 w' V' (all ++ [y])) (hk : Kp (fun k => VA.ownBlock = some k) w w') (hn : ∀ g, V'.ownBlock = some g → VA.ownBlock = some g ∨ w.heap.size ≤ g) : RnS Z last w0 ph VH nx ME (all ++ [y]) S V' U F w' := by
  have hl := h.pLt
  refine ⟨h.cs.kp hk fun k e => .inr (.inr (by have := (h.nA k e).1; have := h.b1; omega)), h.vr.kp hk (fun e => by have := (h.nA _ e).1; have := h.b1; omega) (fun k hk2 e => (h.nF k hk2).2.2 e), h.us, h.hm.kp hk (fun e => (h.nA _ e).2 rfl) (fun g hg e => (h.nH g hg).2 e), h.pos, ho, fun k hk2 => ?_, fun g hg => ?_, fun g hg => ?_, h.gp, h.b1, h.gF, h.kp.trans' hk fun j hj e => by have := (h.nA j e).1; omega⟩
  · obtain ⟨a, b, c⟩ := h.nF k hk2
    refine ⟨a, b, fun e => ?_⟩
    rcases hn k e with e2 | e2
    · exact c e2
    · have := h.vr.rs.lt k hk2; omega
  · refine ⟨(h.nH g hg).1, fun e => ?_⟩
    rcases hn g e with e2 | e2
    · exact (h.nH g hg).2 e2
    · have := h.hm.vlt g hg; omega
  · rcases hn g hg with e2 | e2
    · exact h.nA g e2
    · exact ⟨by have := h.kp.size; omega, by have := h.hm.lt; omega⟩
/-- A stay is looked at. -/
theorem RnS.looked {x : Sty} {U' : Int → List Sty} (h : RnS Z last w0 ph VH nx ME all S VA U F w) (hr : RepS w' Z.ms U' F') (hu : U' = setU U (x.c : Int) (U (x.c : Int) ++ [x])) (hk : Kp F w w') (hn : ∀ k, F' k → F k ∨ w.heap.size ≤ k) : RnS Z last w0 ph VH nx ME all (S ++ [x]) VA U' F' w' := by
  have hl := h.pLt
  have hb := h.b1
  refine ⟨h.cs.kp hk fun k e => ?_, ⟨hk.blk h.vr.blk fun e => ?_, hr, fun k e => ?_⟩, fun c => ?_, h.hm.kp hk (fun e => (h.nF _ e).1 rfl) (fun g hg e => (h.nF g e).2.1 hg), h.pos, h.al.kp hk (fun g hg e => (h.nF g e).2.2 hg), fun k e => ?_, h.nH, h.nA, h.gp, h.b1, fun k e => ?_, h.kp.trans' hk fun j hj e => ?_⟩
  · rcases h.gF k e with e2 | e2
    · exact .inr (.inl e2)
    · exact .inr (.inr (by omega))
  · rcases h.gF _ e with e2 | e2 <;> omega
  · rcases hn k e with e2 | e2
    · exact h.vr.fm k e2
    · exact .inr (by have := h.cs.lt.2.2.2; omega)
  · rw [hu, List.filter_append]
    unfold setU
    by_cases e : c = x.c
    · subst e
      rw [if_pos rfl, h.us]
      simp
    · rw [if_neg (by omega), h.us]
      simp [show ¬ x.c = c from fun e2 => e e2.symm]
  · rcases hn k e with e2 | e2
    · exact h.nF k e2
    · obtain ⟨a, b, c, d⟩ := h.offNew e2
      exact ⟨a, b, c⟩
  · rcases hn k e with e2 | e2
    · exact h.gF k e2
    · exact .inr (by have := h.kp.size; omega)
  · rcases h.gF j e with e2 | e2
    · exact e2
    · omega
end
theorem kn_any {S : List Sty} {U : Int → List Sty} (hu : ∀ c : Nat, U c = S.filter fun y => decide (y.c = c)) (x : Sty) : (U x.c).any (knB x) = true ↔ kn S x := by
  rw [List.any_eq_true, hu]
  constructor
  · rintro ⟨y, hy, h⟩
    have h1 := List.mem_filter.1 hy
    unfold knB at h
    simp only [Bool.and_eq_true, decide_eq_true_eq] at h
    exact ⟨y, h1.1, by simpa using h1.2, h.1, h.2⟩
  · rintro ⟨y, hy, h1, h2, h3⟩
    exact ⟨y, List.mem_filter.2 ⟨hy, by simpa using h1⟩, by unfold knB; simp [h2, h3]⟩
end Go.Proofs.YtgdokpfepfmbmaaDoor

namespace Go.Proofs.YtgdokpfepfmbmaaDoor
set_option linter.unusedVariables false
set_option linter.unusedSimpArgs false
open Go.RowKit

theorem rdSy_one {w : World} (x : Sty) {b : Nat} (hb : b = w.heap.size) : Rd SyK (w.alloc (.cells #[.int .i64 (x.c : Int), .int .i64 x.a, .int .i64 x.b] 100)) (.slice (some ⟨b, 0, none⟩) 1 1) [x] :=
  Rd.litAt SyK 100 w _ [x] rfl (by unfold maxLen; simp) _ _ hb rfl
/-- What an append to the map's list, and its storing, leaves. -/
theorem looked_mid {Z : SeP} {last : Int} {w0 wr wa w3 : World} {ph nx b8 b6 : Nat} {VH VA v v' : Value} {ME : List Ent} {all S : List Sty} {U : Int → List Sty} {F : Nat → Prop} {x : Sty} {k6 v6 : Value}
    (h : RnS Z last w0 ph VH nx ME all S VA U F wr) (h8 : wr.heap[b8]? = some (.cells #[.int .i64 (x.c : Int), .int .i64 x.a, .int .i64 x.b] 100 (0, 0))) (o8 : ¬ F b8)
    (h6 : wr.heap[b6]? = some (.cells #[k6, v6] 126 (0, 0))) (o6 : ¬ F b6) (hka : Kp No wr wa)
    (hv : ∀ g, v.ownBlock = some g → F g ∧ g ≠ Z.ms)
    (hc : ∀ w1 v' l', Kp (fun k => v.ownBlock = some k) wr w1 → Own SyK 100 w1 v' l' → (∀ g, v'.ownBlock = some g → v.ownBlock = some g ∨ wr.heap.size ≤ g) →
        ∃ w2 F', (Instr.mapUpdate 87 (.map (some Z.ms)) (.int .i64 (x.c : Int)) v').run Tryd.prog w1 = .ok () w2 ∧ RepS w2 Z.ms (setU U (x.c : Int) l') F' ∧ Kp F wr w2 ∧ ∀ k, F' k → F k ∨ wr.heap.size ≤ k)
    (m1 : Own SyK 100 w3 v' (U (x.c : Int) ++ [x])) (m2 : Kp (fun k => v.ownBlock = some k) wa w3) (m3 : ∀ g, v'.ownBlock = some g → v.ownBlock = some g ∨ wa.heap.size ≤ g) :
    (w3.cell? ⟨Z.p, 7, none⟩ = some (.map (some Z.ms)) ∧ w3.cell? ⟨b8, 0, none⟩ = some (.int .i64 (x.c : Int)) ∧ w3.cell? ⟨b8, 1, none⟩ = some (.int .i64 x.a) ∧ w3.cell? ⟨b8, 2, none⟩ = some (.int .i64 x.b)) ∧
    ∃ w4 F', (Instr.mapUpdate 87 (.map (some Z.ms)) (.int .i64 (x.c : Int)) v').run Tryd.prog w3 = .ok () w4 ∧ RnS Z last w0 ph VH nx ME all (S ++ [x]) VA (setU U (x.c : Int) (U (x.c : Int) ++ [x])) F' w4 ∧
      w4.heap[b8]? = some (.cells #[.int .i64 (x.c : Int), .int .i64 x.a, .int .i64 x.b] 100 (0, 0)) ∧ w4.heap[b6]? = some (.cells #[k6, v6] 126 (0, 0)) ∧ wr.heap.size ≤ w4.heap.size ∧ (∀ k, F' k → F k ∨ wr.heap.size ≤ k) ∧
      (w4.cell? ⟨Z.p, 7, none⟩ = some (.map (some Z.ms)) ∧ w4.cell? ⟨b8, 0, none⟩ = some (.int .i64 (x.c : Int)) ∧ w4.cell? ⟨b8, 1, none⟩ = some (.int .i64 x.a) ∧ w4.cell? ⟨b8, 2, none⟩ = some (.int .i64 x.b)) := by
  have kk : Kp (fun k => v.ownBlock = some k) wr w3 := (hka.mono fun _ _ e => e.elim).trans m2
  have hs := hka.size
  have np : ¬ F Z.p := fun e => by have := h.pLt; have := h.b1; rcases h.gF _ e with e2 | e2 <;> omega
  have b3 := kk.blk h8 (fun e => o8 (hv _ e).1)
  have p3 := kk.blk h.vr.blk (fun e => np (hv _ e).1)
  obtain ⟨w4, F', r1, r2, r3, r4⟩ := hc w3 v' _ kk m1 (fun g hg => by rcases m3 g hg with e | e; exact .inl e; exact .inr (by omega))
  have b4 := r3.blk h8 o8
  have p4 := r3.blk h.vr.blk np
  exact ⟨⟨blk_cell p3 7, blk_cell b3 0, blk_cell b3 1, blk_cell b3 2⟩, w4, F', r1, h.looked r2 rfl r3 r4, b4, r3.blk h6 o6, r3.size, r4, blk_cell p4 7, blk_cell b4 0, blk_cell b4 1, blk_cell b4 2⟩
end Go.Proofs.YtgdokpfepfmbmaaDoor

namespace Go.Proofs.YtgdokpfepfmbmaaDoor
set_option linter.unusedVariables false
set_option linter.unusedSimpArgs false
open Go.RowKit

def idxE (ME : List Ent) : List Nat := ME.map fun e => e.v.toNat
section
variable {Z : SeP} {last : Int} {w0 w : World} {ph nx : Nat} {VH VA : Value} {ME : List Ent} {all S : List Sty} {U : Int → List Sty} {F : Nat → Prop}
theorem rn_pop (h : RnS Z last w0 ph VH nx ME all S VA U F w) (hM : ME.length ≤ 2000000000) : Calls Tryd.prog 71 #[.pointer (some ⟨ph, 0, none⟩)] w fun e w' => (ME = [] ∧ e = .returned (.tuple #[.agg #[.int .i64 0, .int .i64 0], .bool false]) ∧ RnS Z last w0 ph VH nx [] all S VA U F w' ∧ Kp No w w') ∨
    ∃ (a : Ent) (ME' : List Ent) (VH' : Value), ME.Perm (a :: ME') ∧ 0 ≤ a.v ∧ e = .returned (.tuple #[.agg #[.int .i64 a.k, .int .i64 a.v], .bool true]) ∧ RnS Z last w0 ph VH' nx ME' all S VA U F w' ∧ HpP ph VH VH' w w' := by
  refine (hppop_any h.hm hM).mono ?_
  rintro e w' (⟨rfl, rfl, hm, hk⟩ | ⟨a, M', V', hp, _, rfl, hm, hpp⟩)
  · exact .inl ⟨rfl, rfl, h.no hk, hk⟩
  · exact .inr ⟨a, M', V', hp, h.pos a (hp.symm.subset List.mem_cons_self), rfl, h.heap hpp hm fun e he => h.pos e (hp.symm.subset (List.mem_cons_of_mem _ he)), hpp⟩
theorem rn_push (h : RnS Z last w0 ph VH nx ME all S VA U F w) (hM : ME.length ≤ 2000000000) (hnx : nx ≤ 2000000000) (k v : Int) (hv : 0 ≤ v) : Calls Tryd.prog 70 #[.pointer (some ⟨ph, 0, none⟩), .agg #[.int .i64 k, .int .i64 v]] w fun e w' => e = .returned (.tuple #[]) ∧ ∃ VH', RnS Z last w0 ph VH' (nx + 1) (ME ++ [⟨k, v, nx⟩]) all S VA U F w' ∧ HpP ph VH VH' w w' := by
  refine (hppush_any h.hm hM hnx k v).mono ?_
  rintro e w' ⟨rfl, V', hm, hpp⟩
  refine ⟨rfl, V', h.heap hpp hm fun e he => ?_, hpp⟩
  rcases List.mem_append.1 he with h1 | h1
  · exact h.pos e h1
  · simp at h1; subst h1; exact hv
end
/-- The block at hand stays as it is. -/
theorem off_heap {ph b : Nat} {VH VH' : Value} {w w' : World} {o : Obj} (hp : HpP ph VH VH' w w') (hb : w.heap[b]? = some o) (h1 : b ≠ ph) (h2 : VH.ownBlock ≠ some b) : w'.heap[b]? = some o ∧ VH'.ownBlock ≠ some b := by
  refine ⟨hp.kp.blk hb ?_, fun e => ?_⟩
  · rintro (e | e)
    · exact h1 e
    · exact h2 e
  · rcases hp.ge b e with e2 | e2
    · exact h2 e2
    · have := lt_of_block hb; omega
theorem SpI.perm {T : Int → List (Int × Int)} {st : Nat → List Nat} {fr n : Nat} {s0 L : Int} {all S : List Sty} {M M' : List Nat} (h : SpI T st fr n s0 L all S M) (hp : M.Perm M') : SpI T st fr n s0 L all S M' :=
  ⟨h.z, h.gd, h.sub, fun i hi => h.wt i (hp.symm.subset hi), fun i x hx => (h.cov i x hx).imp (fun a => hp.subset a) id, h.new⟩
structure RnH (Z : SeP) (last : Int) (B : Nat) (w0 : World) (ph : Nat) (VH : Value) (ME : List Ent) (all S : List Sty) (VA : Value) (U : Int → List Sty) (F : Nat → Prop) (b6 : Nat) (k6 v6 : Int) (w : World) : Prop where
  r : RnS Z last w0 ph VH all.length ME all S VA U F w
  it : w.heap[b6]? = some (.cells #[.int .i64 k6, .int .i64 v6] 126 (0, 0))
  n6 : b6 ≠ ph ∧ VH.ownBlock ≠ some b6 ∧ VA.ownBlock ≠ some b6 ∧ ¬ F b6 ∧ w0.heap.size ≤ b6
  mel : ME.length ≤ all.length
  al : all.length ≤ 1 + S.length * B
  cl : Cl Z.T Z.st last all S
set_option maxHeartbeats 4000000 in
set_option maxRecDepth 100000 in
theorem sprun_any {Z : SeP} {l0 : Int} {w : World} (hc : SeC Z w) (hv : SeV Z l0 (fun _ => []) (fun k => k = Z.ms) w) (A W : Nat) (hA : A ≤ 60) (hn : Z.n ≤ 60) (hW : W ≤ 250) (hWc : ∀ c, c < Z.n → (freeL (Z.T (c : Int))).length ≤ W) :
    Calls Tryd.prog 40 #[.pointer (some ⟨Z.p, 0, none⟩), .int .i64 (A : Int)] w fun e w' => e = .returned (.tuple #[]) ∧ ∃ S all U F, SpI Z.T Z.st Z.fr Z.n Z.s0 (Z.s0 + A) all S [] ∧ Cl Z.T Z.st (Z.s0 + A) all S ∧ (∀ c : Nat, U c = S.filter fun y => decide (y.c = c)) ∧ SeC Z w' ∧ SeV Z (Z.s0 + A) U F w' ∧ Kp (fun k => k = Z.p ∨ k = Z.ms) w w' := by
  obtain ⟨L, hL⟩ : ∃ L, L = Z.s0 + (A : Int) := ⟨_, rfl⟩
  rw [← hL]
  have hs0 := hc.s0
  have hwL : IntKind.i64.wrap (Z.s0 + (A : Int)) = L := by rw [hL]; exact IntWalk.i64_in _ (by omega)
  obtain ⟨w1, hw1⟩ : ∃ y : World, y = w.setCell ⟨Z.p, 6, none⟩ (.int .i64 L) := ⟨_, rfl⟩
  have hks := (Kp.refl (fun j => j = Z.p) w).setCell (p := ⟨Z.p, 6, none⟩) (fun _ => rfl) (.int .i64 L)
  rw [← hw1] at hks
  have C1 := Lib.hid (hc.kp hks fun k e => .inl e)
  have V1 := Lib.hid (show SeV Z L (fun _ => []) (fun k => k = Z.ms) w1 from ⟨by have := blk_set hv.blk 6 (.int .i64 L); rw [← hw1] at this; simpa using this, hv.rs.kp hks (fun b hb e => by have e1 : b = Z.ms := hb; have e2 : b = Z.p := e; have := hc.lt.2.2.1; omega), hv.fm⟩)
  have KS := Lib.hid hks
  have hc5 := hv.c5
  have hc6 := hv.c6
  have hf6 := hv.fz 6
  have HLT := Lib.hid hc.lt
  have HW1 := Lib.hid hw1; have HL := Lib.hid hL
  obtain ⟨B, hB⟩ : ∃ B, B = 4 * W := ⟨_, rfl⟩
  obtain ⟨NB, hNB⟩ : ∃ N, N = (A + 1) * ((W + 1) * Z.n) := ⟨_, rfl⟩
  have hB1 : B ≤ 1000 := by omega
  have hNB1 : NB ≤ 1000000 := by
    have h1 : (W + 1) * Z.n ≤ 251 * 60 := Nat.mul_le_mul (by omega) hn
    have h2 : (A + 1) * ((W + 1) * Z.n) ≤ 61 * (251 * 60) := Nat.mul_le_mul (by omega) h1
    omega
  have FEW := Lib.hid (fun all S M (h : SpI Z.T Z.st Z.fr Z.n Z.s0 L all S M) => show S.length ≤ NB by rw [hNB]; exact h.few hL hWc)
  have stlt : ∀ u c, u < Z.n → c ∈ Z.st u → c < Z.n := fun u c hu hcc => by
    rw [hc.hn] at hu ⊢
    exact steps_sz hc.rt hu hcc
  have STL := Lib.hid stlt
  have BYL := Lib.hid (fun x (hx : x.c < Z.n) => show (byL Z.T Z.st x L).length ≤ B by
    rw [hB]
    exact byL_len hWc (Nat.le_trans (by unfold SeP.st stepsP; split; simp; exact Nat.le_trans (List.length_filter_le _ _) (Nat.le_refl _)) (near_len4 Z.f x.c)) (fun c hcc => stlt _ _ hx hcc))
  have GF := Lib.hid (gd_first (T := Z.T) (st := Z.st) (fr := Z.fr) (n := Z.n) (s0 := Z.s0) (L := L) hc.wf (by rw [hc.hn]; obtain ⟨k, e, h1, _⟩ := ptOk_nat hc.ok; omega) hs0.1 hs0.2 (by omega))
  have HWF := Lib.hid hc.wf
  have BIG := Lib.hid (show ∀ s : Nat, s ≤ NB → 1 + s * B + B ≤ 1000002001 from fun s h => by
    have : s * B ≤ 1000000 * 1000 := Nat.mul_le_mul (by omega) hB1
    omega)
  have NBB := Lib.hid hNB1
  have HS0 := Lib.hid hs0
  clear hc hv hks hw1 hL hB hNB hNB1 stlt hWc hA hn hW
  go_enter Tryd.func40, Tryd.ntmps40
  go_upto_region 1 with fail
  rw [← HW1.out]
  clear hc5 hc6 hf6
  go_wp2_with fail
  refine (hpnew_any w1).mono ?_
  rintro e w2 ⟨rfl, hm2, k2, hsz⟩
  obtain ⟨ph, hph⟩ : ∃ b, b = w1.heap.size := ⟨_, rfl⟩
  rw [← hph] at hm2 ⊢
  have R2 := Lib.hid (show RnS Z L w1 ph (.slice none 0 0) 0 [] [] [] (.slice none 0 0) (fun _ => []) (fun k => k = Z.ms) w2 from
    ⟨C1.out.no k2, V1.out.no k2, fun c => rfl, hm2, by simp, Own.nil _ _ _, fun k hk => ⟨by have := C1.out.lt; omega, by simp [Value.ownBlock], by simp [Value.ownBlock]⟩, fun g hg => by simp [Value.ownBlock] at hg, fun g hg => by simp [Value.ownBlock] at hg, by omega, C1.out.lt.2.2.2, fun k hk => .inl hk, k2.mono fun _ _ e => e.elim⟩)
  clear hm2 k2 hsz hph
  go_wp2_with fail
  refine (spfirst_any R2.out.cs R2.out.vr).mono ?_
  rintro e w3 ⟨rfl, k3⟩
  have R3 := Lib.hid (R2.out.no k3)
  clear k3
  unfold Sty.val fstS
  have c5a := fun o => (R3.out.vr.no ((Kp.refl No w3).alloc o)).c5
  obtain ⟨w4, hw4⟩ : ∃ y : World, y = w3.alloc (.cells #[.int .i64 (Z.fr : Int), .int .i64 Z.s0, .int .i64 (to0 Z.T Z.fr Z.s0)] 100) := ⟨_, rfl⟩
  obtain ⟨VA4, hVA4⟩ : ∃ v : Value, v = .slice (some ⟨w3.heap.size, 0, none⟩) 1 1 := ⟨_, rfl⟩
  have R4 := Lib.hid (show RnS Z L w1 ph (.slice none 0 0) 0 [] [fstS Z.T Z.fr Z.s0] [] VA4 (fun _ => []) (fun k => k = Z.ms) w4 by
    have h1 := R3.out.found (y := fstS Z.T Z.fr Z.s0) (w' := w4) (V' := VA4) (by rw [hVA4, hw4]; exact Own.lit SyK 100 w3 [.int .i64 (Z.fr : Int), .int .i64 Z.s0, .int .i64 (to0 Z.T Z.fr Z.s0)] [fstS Z.T Z.fr Z.s0] rfl (by unfold maxLen; simp)) (by rw [hw4]; exact ((Kp.refl No w3).alloc _).mono fun _ _ e => e.elim) (fun g hg => by rw [hVA4] at hg; simp [Value.ownBlock] at hg; exact .inr (by omega))
    exact h1)
  have HW4 := Lib.hid hw4; have HV4 := Lib.hid hVA4
  clear hw4 hVA4
  go_wp2_with fail
  rw [← HW4.out]
  refine (rn_push R4.out (by simp) (by omega) Z.s0 0 (by omega)).mono ?_
  rintro e w5 ⟨rfl, VH5, r5, hp5⟩
  have R5 := Lib.hid r5
  clear r5 hp5 c5a
  go_wp2_with fail
  refine (rn_pop R5.out (by simp)).mono ?_
  rintro e w6 (⟨h, _⟩ | ⟨a, ME6, VH6, hperm, hav, rfl, r6, hp6⟩)
  · simp at h
  have hp1 := hperm
  obtain ⟨rfl, rfl⟩ : a = ⟨Z.s0, 0, 0⟩ ∧ ME6 = [] := by
    have h1 := hp1.length_eq
    simp at h1
    obtain rfl := h1
    have h2 := hp1.symm.subset (List.mem_cons_self)
    simp at h2
    exact ⟨h2, rfl⟩
  have R6 := Lib.hid r6
  clear r6 hp6 hperm hp1 hav
  rw [← HV4.out]
  obtain ⟨b6, hb6⟩ : ∃ b, b = w6.heap.size := ⟨_, rfl⟩
  have SP0 := Lib.hid (SpI.start (T := Z.T) (st := Z.st) (n := Z.n) GF.out)
  have H6 := Lib.hid (show RnH Z L B w1 ph VH6 [] [fstS Z.T Z.fr Z.s0] [] VA4 (fun _ => []) (fun k => k = Z.ms) b6 Z.s0 0 (w6.alloc (.cells #[.int .i64 Z.s0, .int .i64 0] 126)) from
    ⟨R6.out.no ((Kp.refl _ _).alloc _), by rw [hb6]; exact blk_new w6 _, by obtain ⟨a, b, c, d⟩ := R6.out.offNew (b := b6) (by omega); exact ⟨a, b, c, d, by rw [hb6]; exact R6.out.kp.size⟩, by simp, by simp, SP0.out.2⟩)
  go_wp2_with fail
  rw [← hb6]
  clear hb6
  go_loopg [5, 6, 7] (NB * (B + 1) + 2) (fun g_ av xv iv wx => ∃ (VH VA : Value) (ME : List Ent) (all S : List Sty) (U : Int → List Sty) (F : Nat → Prop) (b6 : Nat) (k6 v6 : Int), VA = av ∧ xv = .pointer (some ⟨b6, 0, none⟩) ∧ RnH Z L B w1 ph VH ME all S VA U F b6 k6 v6 wx ∧
    ((iv = .bool true ∧ ∃ i : Nat, v6 = (i : Int) ∧ i < all.length ∧ SpI Z.T Z.st Z.fr Z.n Z.s0 L all S (i :: idxE ME) ∧ g_ = (NB - S.length) * (B + 1) + ME.length + 2) ∨ (iv = .bool false ∧ ME = [] ∧ SpI Z.T Z.st Z.fr Z.n Z.s0 L all S [] ∧ g_ = (NB - S.length) * (B + 1) + 1)))
  case atStart => exact ⟨VH6, VA4, [], [fstS Z.T Z.fr Z.s0], [], _, _, b6, Z.s0, 0, rfl, rfl, H6.out, .inl ⟨rfl, 0, rfl, by simp, SP0.out.1, by simp⟩⟩
  case round =>
    obtain ⟨VH, VA, ME, all, S, U, F, b6, k6, v6, rfl, rfl, hh, ⟨rfl, i, rfl, hia, sp, hgk⟩ | ⟨rfl, rfl, sp, hgk⟩⟩ := hrel
    · obtain ⟨x, hx⟩ : ∃ x, all[i]? = some x := ⟨_, List.getElem?_eq_getElem hia⟩
      have SP := Lib.hid sp
      have HX := Lib.hid hx
      obtain ⟨n1, hn1⟩ : ∃ m, m = all.length := ⟨_, rfl⟩
      have hiI : (i : Int) < (n1 : Int) := by omega
      have hi1 := blk_cell hh.it 1
      have hi0 := blk_cell hh.it 0
      obtain ⟨g, cap, hVA⟩ : ∃ g cap, VA = .slice (some ⟨g, 0, none⟩) n1 cap := by
        rcases hh.r.al.b with ⟨_, h2⟩ | ⟨g, cap, h2, _⟩
        · rw [h2] at hia; simp at hia
        · exact ⟨g, cap, by rw [hn1]; exact h2⟩
      have hrd := hh.r.al.rd
      subst hVA
      obtain ⟨x0, x1, x2⟩ := hrd.styAt hx
      rw [Nat.zero_add] at x0 x1 x2
      have GX := Lib.hid (sp.gd x (List.mem_of_getElem? hx))
      obtain ⟨b8, hb8⟩ : ∃ b, b = wr.heap.size := ⟨_, rfl⟩
      obtain ⟨w8, hw8⟩ : ∃ y : World, y = wr.alloc (.cells #[.int .i64 (x.c : Int), .int .i64 x.a, .int .i64 x.b] 100) := ⟨_, rfl⟩
      have HH := Lib.hid hh
      have H8 := Lib.hid (show RnS Z L w1 ph VH all.length ME all S (.slice (some ⟨g, 0, none⟩) n1 cap) U F w8 by rw [hw8]; exact hh.r.no ((Kp.refl _ _).alloc _))
      have X8 := Lib.hid (show w8.heap[b8]? = some (.cells #[.int .i64 (x.c : Int), .int .i64 x.a, .int .i64 x.b] 100 (0, 0)) by rw [hw8, hb8]; exact blk_new wr _)
      have I8 := Lib.hid (show w8.heap[b6]? = some (.cells #[.int .i64 k6, .int .i64 (i : Int)] 126 (0, 0)) by rw [hw8]; exact blk_alloc hh.it _)
      have O8 := Lib.hid (show (b8 ≠ ph ∧ VH.ownBlock ≠ some b8 ∧ (Value.slice (some ⟨g, 0, none⟩) n1 cap).ownBlock ≠ some b8 ∧ ¬ F b8) ∧ w1.heap.size ≤ b8 from ⟨hh.r.offNew (by omega), by rw [hb8]; exact hh.r.kp.size⟩)
      have HW8 := Lib.hid hw8; have HB8 := Lib.hid hb8; have HN1 := Lib.hid hn1
      obtain ⟨t, ht⟩ : ∃ t, (U x.c).any (knB x) = t := ⟨_, rfl⟩
      have KN := Lib.hid (spknown_any H8.out.vr x t ht)
      have HT0 := Lib.hid ht
      have HGK := Lib.hid hgk
      unfold Sty.val at KN
      clear hh sp hx hw8 hb8 hrd ht hgk hn1
      go_upto_region 8 with fail
      rw [← HW8.out, ← HB8.out]
      clear hi0 hi1 x0 x1 x2
      have y0 := blk_cell X8.out 0
      have y1 := blk_cell X8.out 1
      have y2 := blk_cell X8.out 2
      go_wp2_with fail
      refine KN.out.mono ?_
      rintro e w9 ⟨rfl, k9⟩
      have K9 := Lib.hid k9
      clear k9 y0 y1 y2
      obtain ⟨VA, hVA⟩ : ∃ v : Value, v = .slice (some ⟨g, 0, none⟩) n1 cap := ⟨_, rfl⟩
      rw [← hVA] at H8 O8 HH ⊢
      have HVA := Lib.hid hVA
      clear hVA
      cases t with
      | true =>
        have HK := Lib.hid ((kn_any H8.out.us x).1 HT0.out)
        have SPT := Lib.hid (SP.out.skip (List.Perm.refl _) HX.out HK.out)
        have HT := Lib.hid (show RnH Z L B w1 ph VH ME all S VA U F b6 k6 (i : Int) w9 from ⟨H8.out.no K9.out, K9.out.blk I8.out (no_no _), HH.out.n6, HH.out.mel, HH.out.al, HH.out.cl⟩)
        obtain ⟨bt, hbt⟩ : ∃ b, b = w9.heap.size := ⟨_, rfl⟩
        obtain ⟨wt, hwt⟩ : ∃ y : World, y = w9.alloc (.cells #[.int .i64 k6, .int .i64 (i : Int)] 126) := ⟨_, rfl⟩
        have HTA := Lib.hid (show RnH Z L B w1 ph VH ME all S VA U F bt k6 (i : Int) wt by
          obtain ⟨a, b, c, d⟩ := HT.out.r.offNew (b := bt) (by omega)
          exact ⟨by rw [hwt]; exact HT.out.r.no ((Kp.refl _ _).alloc _), by rw [hwt, hbt]; exact blk_new w9 _, ⟨a, b, c, d, by rw [hbt]; exact HT.out.r.kp.size⟩, HT.out.mel, HT.out.al, HT.out.cl⟩)
        have HWT := Lib.hid hwt; have HBT := Lib.hid hbt
        have GAS := Lib.hid (show (NB - S.length) * (B + 1) + ME.length + 1 < gk by rw [HGK.out]; omega)
        have z0 := blk_cell HT.out.it 0
        have z1 := blk_cell HT.out.it 1
        clear hwt hbt
        go_upto_region 6 with fail
        rw [← HWT.out, ← HBT.out]
        clear z0 z1
        go_wp2_with fail
        have hpl : ME.length ≤ 2000000000 := by have := HT.out.mel; have := HT.out.al; have := BIG.out _ (FEW.out _ _ _ SPT.out); omega
        refine (rn_pop (HTA.out.r) hpl).mono ?_
        rintro e wp (⟨hme, rfl, rp, kp⟩ | ⟨a, ME', VH', hperm, hav, rfl, rp, hpp⟩)
        · subst hme
          have RP := Lib.hid rp
          have BP := Lib.hid (kp.blk HTA.out.it (no_no _))
          have bf0 := blk_free BP.out 0
          have bf1 := blk_free BP.out 1
          have bc0 := blk_cell BP.out 0
          have bc1 := blk_cell BP.out 1
          have HN := Lib.hid (show RnH Z L B w1 ph VH [] all S VA U F bt 0 0 ((wp.setCell ⟨bt, 0, none⟩ (.int .i64 0)).setCell ⟨bt, 1, none⟩ (.int .i64 0)) from
            ⟨(RP.out.offK ⟨HTA.out.n6.1, HTA.out.n6.2.1, HTA.out.n6.2.2.1, HTA.out.n6.2.2.2.1⟩ HTA.out.n6.2.2.2.2 (((Kp.refl (fun j => j = bt) wp).setCell (p := ⟨bt, 0, none⟩) (fun _ => rfl) _).setCell (p := ⟨bt, 1, none⟩) (fun _ => rfl) _)), by have := blk_set (blk_set BP.out 0 (.int .i64 0)) 1 (.int .i64 0); simpa using this, HTA.out.n6, by simp, HTA.out.al, HTA.out.cl⟩)
          have GK := Lib.hid (show (NB - S.length) * (B + 1) + 1 < gk by have := GAS.out; simp at this; omega)
          clear rp kp
          go_wp2_with fail
          go_roundg ((NB - S.length) * (B + 1) + 1)
          case measure => exact GK.out
          case rel => exact ⟨VH, VA, [], all, S, U, F, bt, 0, 0, rfl, rfl, HN.out, .inr ⟨rfl, rfl, SPT.out, rfl⟩⟩
        · have RP := Lib.hid rp
          obtain ⟨ob, on_⟩ := off_heap hpp HTA.out.it HTA.out.n6.1 HTA.out.n6.2.1
          have BP := Lib.hid ob; have NP := Lib.hid on_
          have bf0 := blk_free ob 0
          have bf1 := blk_free ob 1
          have bc0 := blk_cell ob 0
          have bc1 := blk_cell ob 1
          obtain ⟨ak, av, aq⟩ := a
          obtain ⟨j, rfl⟩ : ∃ j : Nat, av = (j : Int) := ⟨av.toNat, by have : 0 ≤ av := hav; omega⟩
          have hpi : (idxE ME).Perm (j :: idxE ME') := by have := hperm.map (fun e : Ent => e.v.toNat); simpa [idxE] using this
          have SPN := Lib.hid (SPT.out.perm hpi)
          have HJ := Lib.hid (SPT.out.wt j (hpi.symm.subset List.mem_cons_self))
          have hml := hperm.length_eq
          rw [List.length_cons] at hml
          have HN := Lib.hid (show RnH Z L B w1 ph VH' ME' all S VA U F bt ak (j : Int) ((wp.setCell ⟨bt, 0, none⟩ (.int .i64 ak)).setCell ⟨bt, 1, none⟩ (.int .i64 (j : Int))) from
            ⟨(RP.out.offK ⟨HTA.out.n6.1, NP.out, HTA.out.n6.2.2.1, HTA.out.n6.2.2.2.1⟩ HTA.out.n6.2.2.2.2 (((Kp.refl (fun j => j = bt) wp).setCell (p := ⟨bt, 0, none⟩) (fun _ => rfl) _).setCell (p := ⟨bt, 1, none⟩) (fun _ => rfl) _)), by have := blk_set (blk_set BP.out 0 (.int .i64 ak)) 1 (.int .i64 (j : Int)); simpa using this, ⟨HTA.out.n6.1, NP.out, HTA.out.n6.2.2.1, HTA.out.n6.2.2.2.1, HTA.out.n6.2.2.2.2⟩, by have := HTA.out.mel; omega, HTA.out.al, HTA.out.cl⟩)
          have GK := Lib.hid (show (NB - S.length) * (B + 1) + ME'.length + 2 < gk by have := GAS.out; omega)
          clear rp hpp ob on_ hpi hperm hml hav
          go_wp2_with fail
          go_roundg ((NB - S.length) * (B + 1) + ME'.length + 2)
          case measure => exact GK.out
          case rel => exact ⟨VH', VA, ME', all, S, U, F, bt, ak, (j : Int), rfl, rfl, HN.out, .inl ⟨rfl, j, rfl, HJ.out, SPN.out, rfl⟩⟩
      | false =>
        have HK := Lib.hid (show ¬ kn S x from fun e => by have := (kn_any H8.out.us x).2 e; rw [HT0.out] at this; cases this)
        have R9 := Lib.hid (H8.out.no K9.out)
        have X9 := Lib.hid (K9.out.blk X8.out (no_no _))
        have I9 := Lib.hid (K9.out.blk I8.out (no_no _))
        obtain ⟨v, hl, ho, hvF, hcont⟩ := R9.out.vr.rs.at (x.c : Int)
        have HVF := Lib.hid hvF; have HCONT := Lib.hid hcont; have HO := Lib.hid ho
        obtain ⟨Av, qv, hvs⟩ := ho.rd.shape
        obtain ⟨nv, hnv⟩ : ∃ m, m = (U (x.c : Int)).length := ⟨_, rfl⟩
        rw [← hnv] at hvs
        subst hvs
        have hnvb : nv ≤ 1000002001 := by
          rw [hnv, R9.out.us]
          have h1 := List.length_filter_le (fun y : Sty => decide (y.c = x.c)) S
          have h2 := FEW.out _ _ _ SP.out
          have h3 : S.length ≤ 1000002001 := by have := NBB.out; omega
          omega
        have HNV := Lib.hid hnv
        have hl1 := hl w9.drew (Kp.refl No w9).drew
        have hl2 := fun o => hl (w9.drew.alloc o) ((Kp.refl No w9).drew.alloc o)
        have hl3 := fun o => hl (w9.alloc o).drew ((Kp.refl No w9).alloc o).drew
        have c7 : w9.drew.cell? ⟨Z.p, 7, none⟩ = some (.map (some Z.ms)) := R9.out.vr.c7
        have y0 : w9.drew.cell? ⟨b8, 0, none⟩ = some (.int .i64 (x.c : Int)) := blk_cell X9.out 0
        have y1 : w9.drew.cell? ⟨b8, 1, none⟩ = some (.int .i64 x.a) := blk_cell X9.out 1
        have y2 : w9.drew.cell? ⟨b8, 2, none⟩ = some (.int .i64 x.b) := blk_cell X9.out 2
        clear hl ho hvF hcont hnv
        go_upto_region 9 with fail
        go_cut [50, 51, 52, 53, 54, 55, 56, 57, 58, 59, 60, 61, 62, 63, 64, 65] (fun _ _ _ _ _ _ _ _ _ _ _ _ _ _ _ _ wx => ∃ F' : Nat → Prop, RnS Z L w1 ph VH all.length ME all (S ++ [x]) VA (setU U (x.c : Int) (U (x.c : Int) ++ [x])) F' wx ∧ wx.heap[b8]? = some (.cells #[.int .i64 (x.c : Int), .int .i64 x.a, .int .i64 x.b] 100 (0, 0)) ∧ wx.heap[b6]? = some (.cells #[.int .i64 k6, .int .i64 (i : Int)] 126 (0, 0)) ∧ w9.heap.size ≤ wx.heap.size ∧ ∀ k, F' k → F k ∨ w9.heap.size ≤ k)
        case first =>
          go_region_held3 (fun w' => w'.cell? ⟨Z.p, 7, none⟩ = some (.map (some Z.ms)) ∧ w'.cell? ⟨b8, 0, none⟩ = some (.int .i64 (x.c : Int)) ∧ w'.cell? ⟨b8, 1, none⟩ = some (.int .i64 x.a) ∧ w'.cell? ⟨b8, 2, none⟩ = some (.int .i64 x.b))
            (first | exact ⟨by assumption, by assumption, by assumption, by assumption⟩ | exact ⟨c7, y0, y1, y2⟩ | exact ⟨(R9.out.vr.no ((Kp.refl No w9).drew.alloc _)).c7, blk_cell (blk_alloc X9.out _) 0, blk_cell (blk_alloc X9.out _) 1, blk_cell (blk_alloc X9.out _) 2⟩)
            (first | (refine stp_app elSy rfl (.tmp 62) (.tmp 64) rfl rfl rfl (v := .slice Av nv qv) (l := U (x.c : Int)) (m := [x]) (HO.out.kpNo ((Kp.refl No w9).drew.alloc _)) (rdSy_one x rfl) (by rw [← HNV.out, List.length_singleton]; unfold maxLen; omega) (by rw [← HNV.out, List.length_singleton]; omega) ?_; intro v' w3 m1 m2 m3; obtain ⟨⟨z7, z0, z1, z2⟩, w4, F', r1, r2, r3, r4, r5, r6, u7, u0, u1, u2⟩ := looked_mid R9.out X9.out O8.out.1.2.2.2 I9.out HH.out.n6.2.2.2.1 ((Kp.refl No w9).drew.alloc _) HVF.out HCONT.out m1 m2 m3; have R10 := Lib.hid r2; have X10 := Lib.hid r3; have I10 := Lib.hid r4; have S10 := Lib.hid r5; have F10 := Lib.hid r6; clear m1 m2 m3 r2 r3 r4 r5 r6))
          all_goals
            go_wp2_with fail
            go_meet
            exact ⟨F', R10.out.no ((Kp.refl No _).drewN 0), X10.out, I10.out, S10.out, F10.out⟩
        case rest =>
          obtain ⟨F', r10, x10, i10, s10, f10⟩ := hcut
          obtain ⟨wa, hwa⟩ : ∃ y : World, y = wc := ⟨_, rfl⟩
          rw [← hwa] at r10 x10 i10 s10 ⊢
          obtain ⟨S', hS'⟩ : ∃ l, l = S ++ [x] := ⟨_, rfl⟩
          obtain ⟨U', hU'⟩ : ∃ g : Int → List Sty, g = setU U (x.c : Int) (U (x.c : Int) ++ [x]) := ⟨_, rfl⟩
          rw [← hS', ← hU'] at r10
          have R10 := Lib.hid r10; have I10 := Lib.hid i10; have HS' := Lib.hid hS'
          have N6 := Lib.hid (show ¬ F' b6 from fun e => by
            rcases f10 _ e with e2 | e2
            · exact HH.out.n6.2.2.2.1 e2
            · have := lt_of_block I9.out; omega)
          have SPT0 := Lib.hid (show SpI Z.T Z.st Z.fr Z.n Z.s0 L all S' (idxE ME) by rw [hS']; exact SP.out.take (List.Perm.refl _) HX.out HK.out)
          have y0 := blk_cell x10 0
          have y1 := blk_cell x10 1
          have y2 := blk_cell x10 2
          obtain ⟨N, hN⟩ : ∃ l, l = byL Z.T Z.st x L := ⟨_, rfl⟩
          have BY := spbeyond_any r10.cs r10.vr x GX.out.cn (by have := GX.out.a0; have := GX.out.ab; have := GX.out.b63; have := HS0.out; omega)
          rw [← hN] at BY
          have BY := Lib.hid BY
          have HN := Lib.hid hN
          have HNL := Lib.hid (show N.length ≤ B by rw [hN]; exact BYL.out x GX.out.cn)
          unfold Sty.val at BY
          clear r10 x10 i10 s10 f10 hwa hS' hU' hN hl1 hl2 hl3 c7
          go_wp2_with fail
          refine BY.out.mono ?_
          rintro e wb ⟨vY, rfl, nY⟩
          obtain ⟨AY, qY, rfl⟩ := nY.own.rd.shape
          obtain ⟨nL, hnL⟩ : ∃ m, m = N.length := ⟨_, rfl⟩
          rw [← hnL] at nY HNL ⊢
          have HNN := Lib.hid hnL
          have hnLb := HNL.out
          have R11 := Lib.hid (R10.out.no nY.kp)
          have I11 := Lib.hid (nY.kp.blk I10.out (no_no _))
          have Y11 := Lib.hid nY.own.rd
          have G11 := Lib.hid (show ∀ g, (Value.slice AY nL qY).ownBlock = some g → g < wb.heap.size ∧ VH.ownBlock ≠ some g ∧ VA.ownBlock ≠ some g ∧ g ≠ ph ∧ ¬ F' g from fun g hg => by
            obtain ⟨a, b, c, d⟩ := R10.out.offNew (nY.ge g hg)
            exact ⟨nY.own.lt hg, b, c, a, d⟩)
          clear nY hnL y0 y1 y2 BY
          go_wp2_with fail
          obtain ⟨gO, hgO⟩ : ∃ z : Nat, z = gk := ⟨_, rfl⟩
          subst hgO
          go_loopg [70, 5] (nL + 1) (fun g2_ jv av wx => ∃ (m : Nat) (VH2 VA2 : Value) (ME2 : List Ent) (all2 : List Sty), g2_ = nL + 1 - m ∧ jv = .int .i64 (m : Int) ∧ VA2 = av ∧ m ≤ nL ∧ RnS Z L w1 ph VH2 all2.length ME2 all2 S' VA2 U' F' wx ∧ wx.heap[b6]? = some (.cells #[.int .i64 k6, .int .i64 (i : Int)] 126 (0, 0)) ∧ VH2.ownBlock ≠ some b6 ∧ VA2.ownBlock ≠ some b6 ∧ SpI Z.T Z.st Z.fr Z.n Z.s0 L all2 S' (idxE ME2) ∧ (∀ y ∈ N.take m, kn all2 y) ∧ Cl Z.T Z.st L all2 S ∧ all2.length ≤ 1 + S.length * B + m ∧ ME2.length ≤ all2.length ∧ ME2.length ≤ ME.length + m ∧ Rd SyK wx (.slice AY nL qY) N ∧ ∀ g, (Value.slice AY nL qY).ownBlock = some g → g < wx.heap.size ∧ VH2.ownBlock ≠ some g ∧ VA2.ownBlock ≠ some g ∧ g ≠ ph ∧ ¬ F' g)
          case atStart => exact ⟨0, VH, VA, ME, all, rfl, rfl, rfl, by omega, R11.out, I11.out, HH.out.n6.2.1, HH.out.n6.2.2.1, SPT0.out, by simp, HH.out.cl, HH.out.al, HH.out.mel, Nat.le_refl _, Y11.out, G11.out⟩
          case round =>
            obtain ⟨m, VH2, VA2, ME2, all2, hg2, rfl, rfl, hm, r2, i2, nh2, na2, sp2, kn2, cl2, al2, ml2, ml3, rY, gY⟩ := hrel
            have R2 := Lib.hid r2; have I2 := Lib.hid i2; have NH2 := Lib.hid nh2; have NA2 := Lib.hid na2; have SP2 := Lib.hid sp2; have KN2 := Lib.hid kn2; have CL2 := Lib.hid cl2; have AL2 := Lib.hid al2; have ML2 := Lib.hid ml2; have ML3 := Lib.hid ml3; have RY := Lib.hid rY; have GY := Lib.hid gY
            have hSl : S'.length ≤ NB := FEW.out _ _ _ sp2
            have hSe : S'.length = S.length + 1 := by rw [HS'.out, List.length_append]; rfl
            have hab : all2.length ≤ 1000002001 := by have := BIG.out S.length (by omega); have := hnLb; omega
            have HAB := Lib.hid hab; have HSL := Lib.hid hSl; have HSE := Lib.hid hSe
            clear i2 nh2 na2 sp2 kn2 cl2 al2 ml2 ml3 gY hSl hSe hab
            by_cases hlt : m < nL
            · have hltI : (m : Int) < (nL : Int) := by omega
              have hwm : IntKind.i64.wrap ((m : Int) + 1) = (m : Int) + 1 := IntWalk.i64_in _ (by omega)
              obtain ⟨y, hy⟩ : ∃ y, N[m]? = some y := ⟨_, List.getElem?_eq_getElem (by rw [← HNN.out]; exact hlt)⟩
              rcases rY with ⟨_, he⟩ | ⟨gy, oy, cap', hv, _⟩
              · have := HNN.out; rw [he, List.length_nil] at this; omega
              simp only [Value.slice.injEq] at hv
              obtain ⟨rfl, hzz, rfl⟩ := hv
              obtain ⟨q0, q1, q2⟩ := RY.out.styAt hy
              have YB := Lib.hid (show y ∈ byL Z.T Z.st x L by rw [← HN.out]; exact List.mem_of_getElem? hy)
              have HY := Lib.hid hy
              obtain ⟨A2, c2, hVA2⟩ := r2.al.rd.shape
              obtain ⟨n2, hn2⟩ : ∃ k, k = all2.length := ⟨_, rfl⟩
              rw [← hn2] at hVA2
              have HN2 := Lib.hid hn2
              subst hVA2
              obtain ⟨bt, hbt⟩ : ∃ b, b = wr.heap.size := ⟨_, rfl⟩
              obtain ⟨wt, hwt⟩ : ∃ z : World, z = wr.alloc (.cells #[.int .i64 (y.c : Int), .int .i64 y.a, .int .i64 y.b] 100) := ⟨_, rfl⟩
              have RT := Lib.hid (show RnS Z L w1 ph VH2 all2.length ME2 all2 S' (.slice A2 n2 c2) U' F' wt by rw [hwt]; exact r2.no ((Kp.refl _ _).alloc _))
              have YT := Lib.hid (show wt.heap[bt]? = some (.cells #[.int .i64 (y.c : Int), .int .i64 y.a, .int .i64 y.b] 100 (0, 0)) by rw [hwt, hbt]; exact blk_new wr _)
              have OT := Lib.hid (r2.offNew (b := bt) (by omega))
              have KT := Lib.hid (show Kp No wr wt by rw [hwt]; exact (Kp.refl _ _).alloc _)
              have HWT := Lib.hid hwt; have HBT := Lib.hid hbt
              obtain ⟨t, ht⟩ : ∃ t, (U' y.c).any (knB y) = t := ⟨_, rfl⟩
              have KNC := Lib.hid (spknown_any RT.out.vr y t ht)
              have HT0 := Lib.hid ht
              unfold Sty.val at KNC
              clear hy hzz hwt hbt ht hn2 r2 hlt
              go_upto_region 13 with fail
              rw [← HWT.out, ← HBT.out]
              clear q0 q1 q2
              have y0 := blk_cell YT.out 0
              have y1 := blk_cell YT.out 1
              have y2 := blk_cell YT.out 2
              go_wp2_with fail
              refine KNC.out.mono ?_
              rintro e wu ⟨rfl, ku⟩
              have KU := Lib.hid (KT.out.no ku)
              have RU := Lib.hid (RT.out.no ku)
              have YU := Lib.hid (ku.blk YT.out (no_no _))
              clear ku y0 y1 y2
              cases t with
              | true =>
                have KY := Lib.hid (show kn all2 y from ((kn_any RU.out.us y).1 HT0.out).mono SP2.out.sub)
                have KN3 := Lib.hid (show ∀ z ∈ N.take (m + 1), kn all2 z from fun z hz => by
                  rw [List.take_add_one, HY.out] at hz
                  rcases List.mem_append.1 hz with h | h
                  · exact KN2.out z h
                  · simp at h; subst h; exact KY.out)
                go_wp2_with fail
                go_roundg (nL + 1 - (m + 1))
                case measure => omega
                case rel => exact ⟨m + 1, VH2, .slice A2 n2 c2, ME2, all2, rfl, by go_num, rfl, by omega, RU.out, KU.out.blk I2.out (no_no _), NH2.out, NA2.out, SP2.out, KN3.out, CL2.out, by have := AL2.out; omega, ML2.out, by have := ML3.out; omega, RY.out.kpNo KU.out, fun gg hg => ⟨Nat.lt_of_lt_of_le (GY.out gg hg).1 KU.out.size, (GY.out gg hg).2⟩⟩
              | false =>
                have y1 := blk_cell YU.out 1
                have hmeb : ME2.length ≤ 2000000000 := by have := ML2.out; have := HAB.out; omega
                go_wp2_with fail
                refine (rn_push RU.out hmeb (by have := HAB.out; omega) y.a (n2 : Int) (by omega)).mono ?_
                rintro e wv ⟨rfl, VH3, rv, hpv⟩
                have RV := Lib.hid rv
                obtain ⟨ib, inn⟩ := off_heap hpv (KU.out.blk I2.out (no_no _)) HH.out.n6.1 NH2.out
                obtain ⟨yb, _⟩ := off_heap hpv YU.out OT.out.1 OT.out.2.1
                have IV := Lib.hid ib; have NV := Lib.hid inn
                have HPV := Lib.hid hpv
                have y0 := blk_cell yb 0
                have y1 := blk_cell yb 1
                have y2 := blk_cell yb 2
                have RYV := Lib.hid ((RY.out.kpNo KU.out).kp hpv.kp (fun gg hg e => by
                  obtain ⟨_, e1, e2, e3, _⟩ := GY.out gg hg
                  rcases e with e | e
                  · exact e3 e
                  · exact e1 e))
                have GYV := Lib.hid (show ∀ gg, (Value.slice (some ⟨gy, oy, none⟩) nL qY).ownBlock = some gg → gg < wv.heap.size ∧ VH3.ownBlock ≠ some gg ∧ (Value.slice A2 n2 c2).ownBlock ≠ some gg ∧ gg ≠ ph ∧ ¬ F' gg from fun gg hg => by
                  obtain ⟨e0, e1, e2, e3, e4⟩ := GY.out gg hg
                  have h1 := KU.out.size
                  have h2 := hpv.kp.size
                  refine ⟨by omega, fun e => ?_, e2, e3, e4⟩
                  rcases hpv.ge gg e with e5 | e5
                  · exact e1 e5
                  · omega)
                clear rv hpv ib inn yb
                have hn2b : n2 ≤ 1000002001 := by rw [HN2.out]; exact HAB.out
                go_wp2_with (at_builtin; refine wpl_append elSy rfl (.tmp 85) (.tmp 87) rfl rfl rfl (v := .slice A2 n2 c2) (l := all2) (m := [y]) ?c1 ?c2 ?c3 ?c4 ?c5)
                case c1 => exact RV.out.al.alloc _
                case c2 => exact rdSy_one y rfl
                case c3 => rw [← HN2.out, List.length_singleton]; unfold maxLen; omega
                case c4 => rw [← HN2.out, List.length_singleton]; omega
                case c5 =>
                  intro v' w' k1 k2 k3
                  have RW := Lib.hid ((RV.out.no ((Kp.refl No wv).alloc (.cells #[.int .i64 (y.c : Int), .int .i64 y.a, .int .i64 y.b] 100))).found k1 k2 (fun gg hg => by simpa using k3 gg hg))
                  have IW := Lib.hid (k2.blk (blk_alloc IV.out _) NA2.out)
                  have NW := Lib.hid (show v'.ownBlock ≠ some b6 from fun e => by
                    rcases k3 b6 e with e2 | e2
                    · exact NA2.out e2
                    · have := lt_of_block IV.out; have e3 : wv.heap.size + 1 ≤ b6 := by simpa using e2
                      omega)
                  have RYW := Lib.hid ((RYV.out.alloc (.cells #[.int .i64 (y.c : Int), .int .i64 y.a, .int .i64 y.b] 100)).kp k2 (fun gg hg e => (GYV.out gg hg).2.2.1 e))
                  have GYW := Lib.hid (show ∀ gg, (Value.slice (some ⟨gy, oy, none⟩) nL qY).ownBlock = some gg → gg < w'.heap.size ∧ VH3.ownBlock ≠ some gg ∧ v'.ownBlock ≠ some gg ∧ gg ≠ ph ∧ ¬ F' gg from fun gg hg => by
                    obtain ⟨e0, e1, e2, e3, e4⟩ := GYV.out gg hg
                    have h2 := k2.size
                    have h3 : wv.heap.size + 1 ≤ w'.heap.size := by simpa using h2
                    refine ⟨by omega, e1, fun e => ?_, e3, e4⟩
                    rcases k3 gg e with e5 | e5
                    · exact e2 e5
                    · have e6 : wv.heap.size + 1 ≤ gg := by simpa using e5
                      omega)
                  have SP3 := Lib.hid (show SpI Z.T Z.st Z.fr Z.n Z.s0 L (all2 ++ [y]) S' (idxE (ME2 ++ [⟨y.a, (n2 : Int), all2.length⟩])) by
                    have h1 := SP2.out.push (GX.out.beyond HWF.out STL.out YB.out)
                    have h2 : idxE (ME2 ++ [⟨y.a, (n2 : Int), all2.length⟩]) = idxE ME2 ++ [all2.length] := by unfold idxE; rw [List.map_append, HN2.out]; simp
                    rw [h2]; exact h1)
                  have KN3 := Lib.hid (show ∀ z ∈ N.take (m + 1), kn (all2 ++ [y]) z from fun z hz => by
                    rw [List.take_add_one, HY.out] at hz
                    rcases List.mem_append.1 hz with h | h
                    · exact (KN2.out z h).mono fun q hq => List.mem_append_left _ hq
                    · simp at h; subst h; exact .self (by simp))
                  have RW2 := Lib.hid (show RnS Z L w1 ph VH3 (all2 ++ [y]).length (ME2 ++ [⟨y.a, (n2 : Int), all2.length⟩]) (all2 ++ [y]) S' v' U' F' w' by rw [List.length_append, List.length_singleton]; exact RW.out)
                  clear k1 k2 k3 RW y0 y1 y2
                  go_wp2_with fail
                  go_roundg (nL + 1 - (m + 1))
                  case measure => omega
                  case rel => exact ⟨m + 1, VH3, v', _, all2 ++ [y], rfl, by go_num, rfl, by omega, RW2.out, IW.out, NV.out, NW.out, SP3.out, KN3.out, CL2.out.mono (fun q hq => List.mem_append_left _ hq), by rw [List.length_append, List.length_singleton]; have := AL2.out; omega, by rw [List.length_append, List.length_append, List.length_singleton, List.length_singleton]; have := ML2.out; omega, by rw [List.length_append, List.length_singleton]; have := ML3.out; omega, RYW.out, GYW.out⟩
            · obtain rfl : m = nL := by omega
              have hd0 : ¬ (m : Int) < (m : Int) := by omega
              have SPT := Lib.hid SP2.out
              have hmul : S'.length * B = S.length * B + B := by rw [HSE.out, Nat.add_mul, Nat.one_mul]
              have HT := Lib.hid (show RnH Z L B w1 ph VH2 ME2 all2 S' VA2 U' F' b6 k6 (i : Int) wr from ⟨R2.out, I2.out, ⟨HH.out.n6.1, NH2.out, NA2.out, N6.out, HH.out.n6.2.2.2.2⟩, ML2.out, by have := AL2.out; omega, fun z hz q hq => by
                rw [HS'.out] at hz
                rcases List.mem_append.1 hz with h | h
                · exact CL2.out z h q hq
                · simp at h; subst h
                  exact KN2.out q (by rw [HNN.out, List.take_length, HN.out]; exact hq)⟩)
              have GAS := Lib.hid (show (NB - S'.length) * (B + 1) + ME2.length + 1 < gO by
                have h1 : NB - S.length = (NB - S'.length) + 1 := by have := HSL.out; have := HSE.out; omega
                have h2 : (NB - S.length) * (B + 1) = (NB - S'.length) * (B + 1) + (B + 1) := by rw [h1, Nat.add_mul, Nat.one_mul]
                have := ML3.out
                rw [HGK.out, h2]
                omega)
              obtain ⟨bt, hbt⟩ : ∃ b, b = wr.heap.size := ⟨_, rfl⟩
              obtain ⟨wt, hwt⟩ : ∃ y : World, y = wr.alloc (.cells #[.int .i64 k6, .int .i64 (i : Int)] 126) := ⟨_, rfl⟩
              have HTA := Lib.hid (show RnH Z L B w1 ph VH2 ME2 all2 S' VA2 U' F' bt k6 (i : Int) wt by
                obtain ⟨a, b, c, d⟩ := HT.out.r.offNew (b := bt) (by omega)
                exact ⟨by rw [hwt]; exact HT.out.r.no ((Kp.refl _ _).alloc _), by rw [hwt, hbt]; exact blk_new wr _, ⟨a, b, c, d, by rw [hbt]; exact HT.out.r.kp.size⟩, HT.out.mel, HT.out.al, HT.out.cl⟩)
              have HWT := Lib.hid hwt; have HBT := Lib.hid hbt
              have z0 := blk_cell HT.out.it 0
              have z1 := blk_cell HT.out.it 1
              clear hwt hbt hlt r2 rY hmul
              go_upto_region 6 with fail
              rw [← HWT.out, ← HBT.out]
              clear z0 z1
              go_wp2_with fail
              have hpl : ME2.length ≤ 2000000000 := by have := HT.out.mel; have := HT.out.al; have := BIG.out _ (FEW.out _ _ _ SPT.out); omega
              refine (rn_pop (HTA.out.r) hpl).mono ?_
              rintro e wp (⟨hme, rfl, rp, kp⟩ | ⟨a, ME2', VH2', hperm, hav, rfl, rp, hpp⟩)
              · subst hme
                have RP := Lib.hid rp
                have BP := Lib.hid (kp.blk HTA.out.it (no_no _))
                have bf0 := blk_free BP.out 0
                have bf1 := blk_free BP.out 1
                have bc0 := blk_cell BP.out 0
                have bc1 := blk_cell BP.out 1
                have HN := Lib.hid (show RnH Z L B w1 ph VH2 [] all2 S' VA2 U' F' bt 0 0 ((wp.setCell ⟨bt, 0, none⟩ (.int .i64 0)).setCell ⟨bt, 1, none⟩ (.int .i64 0)) from
                  ⟨(RP.out.offK ⟨HTA.out.n6.1, HTA.out.n6.2.1, HTA.out.n6.2.2.1, HTA.out.n6.2.2.2.1⟩ HTA.out.n6.2.2.2.2 (((Kp.refl (fun j => j = bt) wp).setCell (p := ⟨bt, 0, none⟩) (fun _ => rfl) _).setCell (p := ⟨bt, 1, none⟩) (fun _ => rfl) _)), by have := blk_set (blk_set BP.out 0 (.int .i64 0)) 1 (.int .i64 0); simpa using this, HTA.out.n6, by simp, HTA.out.al, HTA.out.cl⟩)
                have GK := Lib.hid (show (NB - S'.length) * (B + 1) + 1 < gO by have := GAS.out; simp at this; omega)
                clear rp kp
                go_wp2_with fail
                go_roundg ((NB - S'.length) * (B + 1) + 1)
                case measure => exact GK.out
                case rel => exact ⟨VH2, VA2, [], all2, S', U', F', bt, 0, 0, rfl, rfl, HN.out, .inr ⟨rfl, rfl, SPT.out, rfl⟩⟩
              · have RP := Lib.hid rp
                obtain ⟨ob, on_⟩ := off_heap hpp HTA.out.it HTA.out.n6.1 HTA.out.n6.2.1
                have BP := Lib.hid ob; have NP := Lib.hid on_
                have bf0 := blk_free ob 0
                have bf1 := blk_free ob 1
                have bc0 := blk_cell ob 0
                have bc1 := blk_cell ob 1
                obtain ⟨ak, av, aq⟩ := a
                obtain ⟨j, rfl⟩ : ∃ j : Nat, av = (j : Int) := ⟨av.toNat, by have : 0 ≤ av := hav; omega⟩
                have hpi : (idxE ME2).Perm (j :: idxE ME2') := by have := hperm.map (fun e : Ent => e.v.toNat); simpa [idxE] using this
                have SPN := Lib.hid (SPT.out.perm hpi)
                have HJ := Lib.hid (SPT.out.wt j (hpi.symm.subset List.mem_cons_self))
                have hml := hperm.length_eq
                rw [List.length_cons] at hml
                have HN := Lib.hid (show RnH Z L B w1 ph VH2' ME2' all2 S' VA2 U' F' bt ak (j : Int) ((wp.setCell ⟨bt, 0, none⟩ (.int .i64 ak)).setCell ⟨bt, 1, none⟩ (.int .i64 (j : Int))) from
                  ⟨(RP.out.offK ⟨HTA.out.n6.1, NP.out, HTA.out.n6.2.2.1, HTA.out.n6.2.2.2.1⟩ HTA.out.n6.2.2.2.2 (((Kp.refl (fun j => j = bt) wp).setCell (p := ⟨bt, 0, none⟩) (fun _ => rfl) _).setCell (p := ⟨bt, 1, none⟩) (fun _ => rfl) _)), by have := blk_set (blk_set BP.out 0 (.int .i64 ak)) 1 (.int .i64 (j : Int)); simpa using this, ⟨HTA.out.n6.1, NP.out, HTA.out.n6.2.2.1, HTA.out.n6.2.2.2.1, HTA.out.n6.2.2.2.2⟩, by have := HTA.out.mel; omega, HTA.out.al, HTA.out.cl⟩)
                have GK := Lib.hid (show (NB - S'.length) * (B + 1) + ME2'.length + 2 < gO by have := GAS.out; omega)
                clear rp hpp ob on_ hpi hperm hml hav
                go_wp2_with fail
                go_roundg ((NB - S'.length) * (B + 1) + ME2'.length + 2)
                case measure => exact GK.out
                case rel => exact ⟨VH2', VA2, ME2', all2, S', U', F', bt, ak, (j : Int), rfl, rfl, HN.out, .inl ⟨rfl, j, rfl, HJ.out, SPN.out, rfl⟩⟩
    · have HH := Lib.hid hh; have SP := Lib.hid sp
      clear hh sp
      go_wp2_with fail
      go_end0
      exact ⟨rfl, S, all, U, F, SP.out, HH.out.cl, HH.out.r.us, HH.out.r.cs, HH.out.r.vr, (KS.out.mono fun _ _ e => .inl e).trans' HH.out.r.kp (fun j _ e => .inr e)⟩
end Go.Proofs.YtgdokpfepfmbmaaDoor

namespace Go.Proofs.YtgdokpfepfmbmaaDoor
set_option linter.unusedVariables false
set_option linter.unusedSimpArgs false
open Go.RowKit

theorem spfar_any (a : Int) (w : World) (t : Bool) (ht : (decide (0 ≤ a) && decide (a ≤ 1024)) = t) : Calls Tryd.prog 39 #[.int .i64 a] w fun e w' => e = .returned (.bool t) ∧ w' = w := by
  obtain ⟨d1, h1⟩ : ∃ d, decide (a ≥ 0) = d := ⟨_, rfl⟩
  obtain ⟨d2, h2⟩ : ∃ d, decide (a ≤ 1024) = d := ⟨_, rfl⟩
  have HE := Lib.hid (show t = (d1 && d2) by rw [← ht, h2, ← h1])
  clear ht
  cases d1 with
  | true =>
    go_enter Tryd.func39, Tryd.ntmps39
    go_wp2_with fail
    go_ret
    exact ⟨by rw [HE.out]; rfl, rfl⟩
  | false =>
    go_enter Tryd.func39, Tryd.ntmps39
    go_wp2_with fail
    go_ret
    exact ⟨by rw [HE.out]; rfl, rfl⟩
noncomputable def soonP (f : Flr) (T : Int → List (Int × Int)) (fr s0 ah : Int) : List Int := if spOk f fr s0 = true ∧ (decide (0 ≤ ah) && decide (ah ≤ 1024)) = true then snL T (stepsP f fr.toNat []) fr.toNat s0 ah.toNat f.s.size else []
set_option maxHeartbeats 2000000 in
set_option maxRecDepth 100000 in
theorem spSoon_any (f : Flr) (hsz : f.s.size ≤ 60) {T : Int → List (Int × Int)} (hT : WFT T) {W : Nat} (hW : W ≤ 250) (hWc : ∀ c, c < f.s.size → (freeL (T (c : Int))).length ≤ W) (fr s0 ah : Int) (hah : ah ≤ 60 ∨ 1024 < ah) (tb : Nat) {FT : Nat → Prop} {w : World} (hR : RepT w tb T FT) :
    Calls Tryd.prog 17 #[f.val, .pointer (some ⟨tb, 0, none⟩), .int .i64 fr, .int .i64 s0, .int .i64 ah] w fun e w' => ∃ v, e = .returned v ∧ NewS IK 3 w w' v (soonP f T fr s0 ah) := by
  have HBX := Lib.hid (BxW.new f w)
  obtain ⟨N, hN⟩ : ∃ N, N = soonP f T fr s0 ah := ⟨_, rfl⟩
  rw [← hN]
  cases hok : spOk f fr s0 with
  | false =>
    have HO := Lib.hid (spof_no f (by omega) tb fr s0 hok)
    have HE := Lib.hid (show N = [] by rw [hN]; unfold soonP; rw [hok]; simp)
    obtain ⟨X, Y, s⟩ := f
    unfold Flr.val at HO ⊢
    clear hN hok hsz hT hW hWc hah hR
    go_enter Tryd.func17, Tryd.ntmps17
    go_wp2_with fail
    refine (HO.out _).mono ?_
    rintro e w1 ⟨rfl, k1⟩
    have K1 := Lib.hid (HBX.out.kp.no k1)
    clear k1
    go_wp2_with fail
    go_ret
    exact ⟨_, rfl, by rw [HE.out]; exact ⟨Own.nil _ _ _, by simp [Value.ownBlock], K1.out⟩⟩
  | true =>
    have hok2 : ptOk f fr = true := by unfold spOk at hok; simp only [Bool.and_eq_true] at hok; exact hok.1.1
    obtain ⟨k, rfl, hk, hr⟩ := ptOk_nat hok2
    have HO := Lib.hid (spof_ok f (by omega) T hT k s0 tb (w := w.alloc (.cells #[.int .i64 f.W, .int .i64 f.H, .string f.s] 23)) (hR.kpNo ((Kp.refl _ _).alloc _)) hok)
    obtain ⟨fa, hfa⟩ : ∃ b, (decide (0 ≤ ah) && decide (ah ≤ 1024)) = b := ⟨_, rfl⟩
    have FA := Lib.hid (fun w => spfar_any ah w fa hfa)
    obtain ⟨F, hF⟩ : ∃ F, F = f := ⟨_, rfl⟩
    have HF := Lib.hid hF
    rw [← hF] at hN hsz hWc hk
    have HN := Lib.hid hN
    have HWC := Lib.hid hWc; have HSZ := Lib.hid hsz; have HFA := Lib.hid hfa; have HAH := Lib.hid hah
    have HOK := Lib.hid (show spOk F (k : Int) s0 = true by rw [hF]; exact hok)
    obtain ⟨X, Y, s⟩ := f
    unfold Flr.val at HO ⊢
    clear hok hok2 hk hr hN hsz hWc hfa hF hR hah
    cases fa with
    | false =>
      have HE := Lib.hid (show N = [] by rw [HN.out]; unfold soonP; rw [if_neg]; rintro ⟨_, h⟩; rw [HFA.out] at h; cases h)
      go_enter Tryd.func17, Tryd.ntmps17
      go_wp2_with fail
      refine HO.out.mono ?_
      rintro e w1 ⟨Z, _, _, _, _, _, rfl, cs, sv, k1, _⟩
      have K1 := Lib.hid (HBX.out.kp.no k1)
      clear cs sv k1
      go_wp2_with fail
      refine (FA.out _).mono ?_
      rintro e w2 ⟨rfl, hw2⟩
      obtain rfl : w2 = w1 := hw2
      go_wp2_with fail
      go_ret
      exact ⟨_, rfl, by rw [HE.out]; exact ⟨Own.nil _ _ _, by simp [Value.ownBlock], K1.out⟩⟩
    | true =>
      obtain ⟨A, rfl, hA⟩ : ∃ A : Nat, ah = A ∧ A ≤ 60 := by
        have := HFA.out
        simp only [Bool.and_eq_true, decide_eq_true_eq] at this
        have h2 := HAH.out
        exact ⟨ah.toNat, by omega, by omega⟩
      have HE := Lib.hid (show N = snL T (stepsP F k []) k s0 A F.s.size by
        rw [HN.out]; unfold soonP; rw [if_pos ⟨HOK.out, HFA.out⟩]
        rw [show ((k : Int)).toNat = k by omega, show ((A : Int)).toNat = A by omega])
      have HAA := Lib.hid hA
      clear hA
      go_enter Tryd.func17, Tryd.ntmps17
      go_wp2_with fail
      refine HO.out.mono ?_
      rintro e w1 ⟨Z, zf, zT, zfr, zs, zb, rfl, cs, sv, k1, gp, gm, gb⟩
      have zf2 : Z.f = F := by rw [zf, HF.out]
      have hn60 : Z.n ≤ 60 := by rw [cs.hn, zf2]; exact HSZ.out
      have RU := Lib.hid (sprun_any cs sv A W HAA.out hn60 hW (fun c hc => by rw [zT]; exact HWC.out c (by rw [← zf2, ← cs.hn]; exact hc)))
      have K1 := Lib.hid (HBX.out.kp.no k1)
      have GE := Lib.hid (show w.heap.size ≤ Z.p ∧ w.heap.size ≤ Z.ms by
        have : w.heap.size ≤ (w.alloc (.cells #[.int .i64 X, .int .i64 Y, .string s] 23)).heap.size := by simp
        exact ⟨Nat.le_trans this gp, Nat.le_trans this gm⟩)
      have HS0 := Lib.hid cs.s0
      have HZN := Lib.hid (show Z.n = F.s.size by rw [cs.hn, zf2])
      have HST := Lib.hid (show Z.T = T ∧ Z.fr = k ∧ Z.s0 = s0 ∧ Z.f = F from ⟨zT, zfr, zs, zf2⟩)
      have HWF := Lib.hid cs.wf
      clear zf zT zfr zs zb cs sv k1 gp gm gb zf2
      go_wp2_with fail
      refine (FA.out _).mono ?_
      rintro e w2 ⟨rfl, hw2⟩
      obtain rfl : w2 = w1 := hw2
      go_wp2_with fail
      refine RU.out.mono ?_
      rintro e w3 ⟨rfl, S, all, U, FF, sp, cl, us, cs, sv, k3⟩
      have K3 := Lib.hid (show Kp No w w3 from K1.out.trans' k3 (fun j hj e => by have := GE.out; rcases e with e | e <;> omega))
      have MN := Lib.hid (fun c : Nat => show mnA (U (c : Int)) = sn T (stepsP F k []) k s0 A c by
        rw [us c]
        have h1 := mnA_sn (T := Z.T) (st := Z.st) (fr := Z.fr) (n := Z.n) (s0 := Z.s0) (L := Z.s0 + (A : Int)) (A := A) HS0.out.1 rfl sp cl HWF.out c
        obtain ⟨e1, e2, e3, e4⟩ := HST.out
        rw [h1]
        have e5 : Z.st = stepsP F k [] := by funext u; unfold SeP.st; rw [e4, e2]
        rw [e5, e1, e2, e3])
      have SV := Lib.hid sv
      have SN := Lib.hid (fun wx (hk : Kp No w3 wx) (c : Nat) => spsoon_any (sv.no hk) (c : Int) _ (MN.out c))
      obtain ⟨n, hn⟩ : ∃ n, n = Z.n := ⟨_, rfl⟩
      have c0 := sv.c0
      rw [← hn] at c0 hn60
      have HNN := Lib.hid hn
      clear sp cl us cs sv k3 hn
      go_wp2_with fail
      go_loopg [38, 13] (n + 1) (fun g_ iv ov wx => ∃ i : Nat, g_ = n + 1 - i ∧ iv = .int .i64 i ∧ i ≤ n ∧ NewS IK 3 w3 wx ov (N.take i))
      case atStart => exact ⟨0, rfl, rfl, by omega, by simpa using NewS.nil IK 3 w3⟩
      case round =>
        obtain ⟨i, hg, rfl, hi, ns⟩ := hrel
        have NS := Lib.hid ns
        have hNl : N.length = n := by rw [HE.out, snL_len, HNN.out, HZN.out]
        obtain ⟨Ao, qo, hov⟩ := ns.own.rd.shape
        rw [List.length_take, hNl, Nat.min_eq_left hi] at hov
        subst hov
        have HNL := Lib.hid hNl
        clear ns hNl c0
        by_cases hlt : i < n
        · have hltI : (i : Int) < (n : Int) := by omega
          have hwi : IntKind.i64.wrap ((i : Int) + 1) = (i : Int) + 1 := IntWalk.i64_in _ (by omega)
          have SC := Lib.hid (SN.out wr NS.out.kp i)
          obtain ⟨r, hr⟩ : ∃ r, r = sn T (stepsP F k []) k s0 A i := ⟨_, rfl⟩
          rw [← hr] at SC
          have HTK := Lib.hid (show N.take (i + 1) = N.take i ++ [r] by rw [HE.out, snL_take (by rw [← HZN.out, ← HNN.out]; exact hlt), hr])
          have HLT := Lib.hid (show (N.take i).length = i by rw [List.length_take, HNL.out, Nat.min_eq_left hi])
          clear hr hlt
          go_wp2_with fail
          refine SC.out.mono ?_
          rintro e w4 ⟨rfl, k4⟩
          have NS4 := Lib.hid (NS.out.kpNo k4)
          clear k4
          go_wp2_with (at_builtin; refine wpl_append elI rfl (.tmp 41) (.tmp 45) rfl rfl rfl (v := .slice Ao i qo) (l := N.take i) (m := [r]) ?c1 ?c2 ?c3 ?c4 ?c5)
          case c1 => exact NS4.out.own.alloc _
          case c2 => exact Rd.litAt IK 3 _ _ [r] rfl (by unfold maxLen; simp) _ _ rfl rfl
          case c3 => rw [HLT.out, List.length_singleton]; unfold maxLen; omega
          case c4 => rw [HLT.out, List.length_singleton]; omega
          case c5 =>
            intro v' w' k1 k2 k3
            rw [← HTK.out] at k1
            have n5 := NS4.out.app ((Kp.refl No w4).alloc (.cells #[.int .i64 r] 3)) k1 k2 k3 (by omega)
            have N5 := Lib.hid n5
            clear k1 k2 k3 n5
            go_wp2_with fail
            go_roundg (n + 1 - (i + 1))
            case measure => omega
            case rel => exact ⟨i + 1, rfl, by go_num, by omega, N5.out⟩
        · obtain rfl : i = n := by omega
          have hd0 : ¬ (i : Int) < (i : Int) := by omega
          have HTE := Lib.hid (show N.take i = N by rw [← HNL.out, List.take_length])
          clear hlt
          go_wp2_with fail
          go_ret
          exact ⟨_, rfl, by have h := NS.out; rw [HTE.out] at h; exact ⟨h.own, fun g hg => by have := h.ge g hg; have := K3.out.size; omega, K3.out.no h.kp⟩⟩
end Go.Proofs.YtgdokpfepfmbmaaDoor

namespace Go.Proofs.YtgdokpfepfmbmaaDoor
set_option linter.unusedVariables false
set_option linter.unusedSimpArgs false
open Go.RowKit

/-- A step's cells. -/
def TK : Kd (Int × Int) := { sz := 2, enc := fun x => [.int .i64 x.1, .int .i64 x.2], len := fun _ => rfl, one := by intro a v hv; simp at hv; rcases hv with rfl | rfl <;> rfl, pos := by decide }
theorem elT : ElT Tryd.prog 49 58 TK 16 := ElT.of (z := .agg #[.int .i64 0, .int .i64 0]) (by kernel_rfl) (by kernel_rfl) rfl
theorem Rd.stpAt {w : World} {l : List (Int × Int)} {g o n cap : Nat} (h : Rd TK w (.slice (some ⟨g, o, none⟩) n cap) l) {i : Nat} {x : Int × Int} (hx : l[i]? = some x) :
    w.cell? ⟨g, o + i * 2, none⟩ = some (.int .i64 x.1) ∧ w.cell? ⟨g, o + i * 2 + 1, none⟩ = some (.int .i64 x.2) :=
  ⟨h.at rfl hx (j := 0) rfl, h.at rfl hx (j := 1) rfl⟩
def RvT (l L : List (Int × Int)) (k : Nat) : Prop := L.length = l.length ∧ ∀ p, p < l.length → L[p]? = if p < k ∨ l.length ≤ p + k then l[l.length - 1 - p]? else l[p]?
theorem RvT.zero (l : List (Int × Int)) : RvT l l 0 := ⟨rfl, fun p hp => by rw [if_neg (by omega)]⟩
theorem RvT.step {l L : List (Int × Int)} {k : Nat} (h : RvT l L k) (hk : 2 * k + 1 < l.length) {a b : Int × Int} (ha : L[k]? = some a) (hb : L[l.length - 1 - k]? = some b) : RvT l ((L.set k b).set (l.length - 1 - k) a) (k + 1) := by
  obtain ⟨h1, h2⟩ := h
  refine ⟨by simp [h1], fun p hp => ?_⟩
  have ea := h2 k (by omega)
  rw [if_neg (by omega), ha] at ea
  have eb := h2 (l.length - 1 - k) (by omega)
  rw [if_neg (by omega), hb] at eb
  rw [List.getElem?_set, List.length_set, h1]
  by_cases e1 : l.length - 1 - k = p
  · rw [if_pos e1, if_pos (by omega), if_pos (by omega), ← e1, show l.length - 1 - (l.length - 1 - k) = k by omega, ← ea]
  · rw [if_neg e1, List.getElem?_set, h1]
    by_cases e2 : k = p
    · subst e2
      rw [if_pos rfl, if_pos (by omega), if_pos (by omega), ← eb]
    · rw [if_neg e2, h2 p hp]
      by_cases e3 : p < k ∨ l.length ≤ p + k
      · rw [if_pos e3, if_pos (by omega)]
      · rw [if_neg e3, if_neg (by omega)]
theorem RvT.done {l L : List (Int × Int)} {k : Nat} (h : RvT l L k) (hk : l.length ≤ 2 * k + 1) : L = l.reverse := by
  apply List.ext_getElem?
  intro p
  rcases Nat.lt_or_ge p l.length with hp | hp
  · rw [h.2 p hp, List.getElem?_reverse hp]
    split
    · rfl
    · congr 1; omega
  · rw [List.getElem?_eq_none (by rw [h.1]; exact hp), List.getElem?_eq_none (by simpa using hp)]

/-- An element of two cells is written. -/
theorem Own.setT {w : World} {e : TypeId} {g n cap : Nat} {E : List (Int × Int)} (h : Own TK e w (.slice (some ⟨g, 0, none⟩) n cap) E) {i : Nat} (hi : i < E.length) (x : Int × Int) :
    Own TK e ((w.setCell ⟨g, i * 2, none⟩ (.int .i64 x.1)).setCell ⟨g, i * 2 + 1, none⟩ (.int .i64 x.2)) (.slice (some ⟨g, 0, none⟩) n cap) (E.set i x) := by
  rcases h with ⟨hv, _⟩ | ⟨g', cap', cur, hv, hb, hlc, hcm, hsz, htake⟩
  · simp at hv
  simp only [Value.slice.injEq, Option.some.injEq, Addr.mk.injEq] at hv
  obtain ⟨⟨rfl, _, _⟩, rfl, rfl⟩ := hv
  have hsz3 : cur.size = cap * 2 := hsz
  have hic : i * 2 + 1 < cur.size := by rw [hsz3]; omega
  refine .inr ⟨g, cap, _, by rw [List.length_set], blk_set (blk_set hb _ _) _ _, by rw [List.length_set]; exact hlc, hcm, by simp; exact hsz, ?_⟩
  refine encs_ext TK _ _ ?_ fun m y j hy hj => ?_
  · have h3 : TK.sz = 2 := rfl
    rw [List.length_take, List.length_set, h3]
    have : (((cur.setIfInBounds (i * 2) (.int .i64 x.1)).setIfInBounds (i * 2 + 1) (.int .i64 x.2)).toList).length = cap * 2 := by simp [hsz3]
    rw [this]; omega
  · have h3 : TK.sz = 2 := rfl
    rw [h3] at hj ⊢
    have hml := (List.getElem?_eq_some_iff.1 hy).1
    rw [List.length_set] at hml
    rw [List.getElem?_take, List.length_set, if_pos (show m * 2 + j < E.length * 2 by omega)]
    rw [Array.getElem?_toList, Array.getElem?_setIfInBounds, Array.getElem?_setIfInBounds]
    rw [List.getElem?_set] at hy
    by_cases hmi : i = m
    · subst hmi
      rw [if_pos rfl, if_pos hi] at hy
      cases hy
      obtain rfl | rfl : j = 0 ∨ j = 1 := by omega
      · rw [if_neg (by omega), if_pos (by omega), if_pos (by omega)]; rfl
      · rw [if_pos (by omega), if_pos (by simp; omega)]; rfl
    · rw [if_neg hmi] at hy
      rw [if_neg (by omega), if_neg (by omega)]
      have h4 := TK.encs_get E m j y hy (by rw [h3]; exact hj)
      rw [← htake, List.getElem?_take, h3, if_pos (show m * 2 + j < E.length * 2 by omega), Array.getElem?_toList] at h4
      exact h4
theorem ownT_f {w : World} {e : TypeId} {g n cap : Nat} {E : List (Int × Int)} (h : Own TK e w (.slice (some ⟨g, 0, none⟩) n cap) E) (i : Nat) : w.frozen? ⟨g, i, none⟩ = false := by
  rcases h with ⟨hv, _⟩ | ⟨g', cap', cur, hv, hb, _⟩
  · simp at hv
  simp only [Value.slice.injEq, Option.some.injEq, Addr.mk.injEq] at hv
  obtain ⟨⟨rfl, _⟩, _⟩ := hv
  exact blk_free hb i
set_option maxHeartbeats 1000000 in
set_option maxRecDepth 100000 in
theorem revT_any {w : World} {v : Value} {l : List (Int × Int)} (hv : Own TK 58 w v l) (hl : l.length ≤ 1000000) :
    Calls Tryd.prog 48 #[v] w fun e w' => e = .returned (.tuple #[]) ∧ Own TK 58 w' v l.reverse ∧ Kp (fun k => v.ownBlock = some k) w w' := by
  obtain ⟨A, c, rfl⟩ := hv.rd.shape
  obtain ⟨n, hn⟩ : ∃ n, n = l.length := ⟨_, rfl⟩
  rw [← hn] at hv hl ⊢
  have H := Lib.hid hv; have HN := Lib.hid hn
  have hwn : IntKind.i64.wrap ((n : Int) - 1) = (n : Int) - 1 := IntWalk.i64_in _ (by omega)
  clear hv hn
  go_enter Tryd.func48, Tryd.ntmps48
  go_wp2_with fail
  go_loopg [2, 3] (n + 1) (fun g_ iv jv wx => ∃ (k : Nat) (L : List (Int × Int)), g_ = n + 1 - k ∧ iv = .int .i64 k ∧ jv = .int .i64 ((n : Int) - 1 - k) ∧ k ≤ n ∧ RvT l L k ∧ Own TK 58 wx (.slice A n c) L ∧ Kp (fun k => (Value.slice A n c).ownBlock = some k) w wx)
  case atStart => exact ⟨0, l, rfl, rfl, by simp, by omega, RvT.zero l, H.out, Kp.refl _ _⟩
  case round =>
    obtain ⟨k, L, hg, rfl, rfl, hk, rv, ow, kp⟩ := hrel
    have RV := Lib.hid rv; have OW := Lib.hid ow; have KP := Lib.hid kp
    clear rv ow kp
    by_cases hlt : 2 * k + 1 < n
    · have hltI : (k : Int) < (n : Int) - 1 - (k : Int) := by omega
      obtain ⟨j, hj⟩ : ∃ j : Nat, j = n - 1 - k := ⟨_, rfl⟩
      have hjI : (n : Int) - 1 - (k : Int) = (j : Int) := by omega
      rw [hjI] at hltI ⊢
      have hkn : (k : Int) < (n : Int) := by omega
      have hjn : (j : Int) < (n : Int) := by omega
      have hwi : IntKind.i64.wrap ((k : Int) + 1) = (k : Int) + 1 := IntWalk.i64_in _ (by omega)
      have hwj : IntKind.i64.wrap ((j : Int) - 1) = (j : Int) - 1 := IntWalk.i64_in _ (by omega)
      have hLl : L.length = n := by rw [RV.out.1, HN.out]
      obtain ⟨a, ha⟩ : ∃ a, L[k]? = some a := ⟨_, List.getElem?_eq_getElem (by omega)⟩
      obtain ⟨b, hb⟩ : ∃ b, L[j]? = some b := ⟨_, List.getElem?_eq_getElem (by omega)⟩
      have RV2 := Lib.hid (show RvT l ((L.set k b).set j a) (k + 1) by
        have := RV.out.step (by rw [← HN.out]; exact hlt) ha (by rw [← HN.out, ← hj]; exact hb)
        rwa [← HN.out, ← hj] at this)
      rcases OW.out.b with ⟨hv, _⟩ | ⟨g, cap', hv, _, _, _⟩
      · simp only [Value.slice.injEq] at hv; omega
      simp only [Value.slice.injEq] at hv
      obtain ⟨rfl, _, _⟩ := hv
      obtain ⟨a0, a1⟩ := OW.out.rd.stpAt ha
      obtain ⟨b0, b1⟩ := OW.out.rd.stpAt hb
      rw [Nat.zero_add] at a0 a1 b0 b1
      have hf := ownT_f OW.out
      obtain ⟨v0, c0⟩ := cellSet (p := ⟨g, k * 2, none⟩) (x := .int .i64 b.1) b0
      obtain ⟨v1', c1'⟩ := cellSet (p := ⟨g, k * 2, none⟩) (x := .int .i64 b.1) b1
      obtain ⟨v0', c0'⟩ := cellSet (p := ⟨g, k * 2 + 1, none⟩) (x := .int .i64 b.2) c0
      obtain ⟨v1, c1⟩ := cellSet (p := ⟨g, k * 2 + 1, none⟩) (x := .int .i64 b.2) c1'
      obtain ⟨v2, c2⟩ := cellSet (p := ⟨g, j * 2, none⟩) (x := .int .i64 a.1) c1
      obtain ⟨v3, c3⟩ := cellSet (p := ⟨g, k * 2, none⟩) (x := .int .i64 b.1) a1
      clear c1'
      have O1 := OW.out.setT (i := k) (by omega) b
      have O2 := Lib.hid (O1.setT (i := j) (by rw [List.length_set]; omega) a)
      have K2 := Lib.hid ((((KP.out.setCell (p := ⟨g, k * 2, none⟩) (fun _ => rfl) (.int .i64 b.1)).setCell (p := ⟨g, k * 2 + 1, none⟩) (fun _ => rfl) (.int .i64 b.2)).setCell (p := ⟨g, j * 2, none⟩) (fun _ => rfl) (.int .i64 a.1)).setCell (p := ⟨g, j * 2 + 1, none⟩) (fun _ => rfl) (.int .i64 a.2))
      have HJ := Lib.hid hj
      clear ha hb hLl hlt hj O1
      go_wp2_with fail
      go_region
      go_wp2_with fail
      go_roundg (n + 1 - (k + 1))
      case measure => omega
      case rel => exact ⟨k + 1, _, rfl, by go_num, by simp; omega, by omega, RV2.out, O2.out.kpNo ((Kp.refl No _).drew), K2.out.no ((Kp.refl No _).drew)⟩
    · have hd0 : ¬ (k : Int) < (n : Int) - 1 - (k : Int) := by omega
      have HE := Lib.hid (RV.out.done (by rw [← HN.out]; omega))
      clear hlt
      go_wp2_with fail
      go_end0
      exact ⟨rfl, by rw [← HE.out]; exact OW.out, KP.out⟩
end Go.Proofs.YtgdokpfepfmbmaaDoor

namespace Go.Proofs.YtgdokpfepfmbmaaDoor
set_option linter.unusedVariables false
set_option linter.unusedSimpArgs false
open Go.RowKit

theorem rch_lt {Z : SeP} {w : World} (h : SeC Z w) : ∀ (k c : Nat), Rch Z.T Z.st Z.fr Z.s0 k c → c < Z.f.s.size := by
  intro k
  induction k with
  | zero => intro c hc; have hc : c = Z.fr := hc; subst hc; obtain ⟨j, e, h1, _⟩ := ptOk_nat h.ok; omega
  | succ k ih =>
    intro c hc
    obtain ⟨_, hc | ⟨u, hu, hcu⟩⟩ := hc
    · exact ih c hc
    · exact steps_sz h.rt (ih u hu) hcu
theorem flp_of {Z : SeP} {w : World} (h : SeC Z w) : Flp Z.T Z.st (fun c => nearP Z.f c) Z.fr Z.s0 Z.ok := by
  intro k u a hu
  have hul := rch_lt h k u hu
  have hok : Z.ok u = true ↔ (kdS Z.f.s u = 2 ∨ u = Z.fr) := by unfold SeP.ok; simp
  constructor
  · intro ha
    have h1 := steps_near ha
    have h2 := steps_of ha
    have h3 : kdS Z.f.s u ≠ 1 := by
      rcases h2 with e | e
      · rw [e]; exact ptOk_ne1 h.ok
      · rw [e]; decide
    exact ⟨near_flip h.rt hul h3 h1.1, hok.2 h2.symm⟩
  · rintro ⟨h1, h2⟩
    have h1 : u ∈ nearP Z.f a := h1
    have ha : a < Z.f.s.size ∧ kdS Z.f.s a ≠ 1 := by
      unfold nearP isB at h1
      split at h1
      · rename_i hx
        simp only [Bool.and_eq_true, decide_eq_true_eq, beq_iff_eq] at hx
        have e : ((a : Int)).toNat = a := by omega
        rw [e] at hx
        rcases hx with hx | hx <;> exact ⟨by omega, by omega⟩
      · simp at h1
    have h3 := near_flip h.rt ha.1 ha.2 h1
    show a ∈ stepsP Z.f Z.fr [] u
    unfold stepsP
    rw [if_neg]
    · exact List.mem_filter.2 ⟨h3, by simp⟩
    · rintro ⟨e1, e2⟩
      rcases hok.1 h2 with e | e
      · exact e2 e
      · exact e1 e
open Classical in
theorem cmU_eq {Z : SeP} {U : Int → List Sty} {all S : List Sty} {L : Int} (sp : SpI Z.T Z.st Z.fr Z.n Z.s0 L all S []) (cl : Cl Z.T Z.st L all S) (hT : WFT Z.T) (us : ∀ c : Nat, U c = S.filter fun y => decide (y.c = c)) (k a : Nat) (hk : Z.s0 + (k : Int) ≤ L) : cmU Z U (Z.s0 + (k : Int)) a = cmP Z.T Z.st (fun c => nearP Z.f c) Z.fr Z.s0 Z.ok k a := by
  unfold cmU cmP
  congr 1
  funext c
  congr 1
  rw [Bool.eq_iff_iff, List.any_eq_true, decide_eq_true_iff, sp.done cl hT k c hk, us]
  constructor
  · rintro ⟨x, hx, h⟩
    have h1 := List.mem_filter.1 hx
    unfold inM at h
    simp only [Bool.and_eq_true, decide_eq_true_eq] at h
    exact ⟨x, h1.1, by simpa using h1.2, h.1, h.2⟩
  · rintro ⟨x, hx, h1, h2, h3⟩
    exact ⟨x, List.mem_filter.2 ⟨hx, by simpa using h1⟩, by unfold inM; simp [h2, h3]⟩
/-- Is there such a cell, and no wall? -/
def opQ (f : Flr) (c : Int) : Bool := decide (0 ≤ c) && decide (c < f.s.size) && (bt f.s c.toNat != 35)
def okF (f : Flr) (fr : Nat) (c : Nat) : Bool := decide (kdS f.s c = 2) || decide (c = fr)
/-- The way that is planned, k moments behind the start in a. -/
noncomputable def plF (f : Flr) (T : Int → List (Int × Int)) (fr : Nat) (s0 : Int) (k a : Nat) : List (Int × Int) := plP T (stepsP f fr []) (fun c => nearP f c) fr s0 (okF f fr) k a
noncomputable def planR (f : Flr) (T : Int → List (Int × Int)) (fr s0 tg ah : Int) : List (Int × Int) × Int :=
  if spOk f fr s0 = true ∧ (decide (0 ≤ ah) && decide (ah ≤ 1024)) = true ∧ opQ f tg = true then
    (if tg = fr then ([], 0) else if sn T (stepsP f fr.toNat []) fr.toNat s0 ah.toNat tg.toNat < 0 then ([], 2) else (plF f T fr.toNat s0 (sn T (stepsP f fr.toNat []) fr.toNat s0 ah.toNat tg.toNat - s0).toNat tg.toNat, 0))
  else ([], 1)
theorem plP_len {T : Int → List (Int × Int)} {st near : Nat → List Nat} {fr : Nat} {s0 : Int} {ok : Nat → Bool} : ∀ k a, (plP T st near fr s0 ok k a).length ≤ k := by
  intro k
  induction k with
  | zero => intro a; exact Nat.le_refl _
  | succ k ih =>
    intro a
    by_cases hs : a = fr ∧ s0 + ((k + 1 : Nat) : Int) < to0 T fr s0
    · obtain ⟨rfl, hs⟩ := hs
      rw [plP_stop hs]; simp
    · cases hc : cmP T st near fr s0 ok k a with
      | some c => rw [plP_some hs hc, List.length_append, List.length_singleton]; have := ih c; omega
      | none => rw [plP_none hs hc]; have := ih a; omega
end Go.Proofs.YtgdokpfepfmbmaaDoor

namespace Go.Proofs.YtgdokpfepfmbmaaDoor
set_option linter.unusedVariables false
set_option linter.unusedSimpArgs false
open Go.RowKit

/-- Steps, reckoned. -/
def stepsC (W H : Nat) (s : ByteArray) (fr : Nat) (B : List Int) (u : Nat) : List Nat :=
  if (u == fr || kdS s u == 2) && (kdS s u == 2 || kdS s u == 3) then ((besideP W H u).filter fun x => kdS s x != 1).filter fun (c : Nat) => !decide ((c : Int) ∈ B) else []
theorem stepsC_eq {W H : Nat} {s : ByteArray} (hb : rightB ⟨W, H, s⟩ = true) {fr : Nat} (hf : kdS s fr ≠ 1) (B : List Int) {u : Nat} (hu : u < s.size) : stepsP ⟨W, H, s⟩ fr B u = stepsC W H s fr B u := by
  unfold stepsP stepsC
  rcases right_kd hb hu with h | h | h
  · rw [if_pos ⟨fun e => hf (by rw [← e]; exact h), by rw [h]; decide⟩, if_neg (by rw [h]; simp)]
  · rw [if_neg (by rintro ⟨_, b⟩; exact b h), if_pos (by rw [h]; simp), nearP_at (W := W) (H := H) hb hu rfl rfl (.inl h)]
  · by_cases e : u = fr
    · rw [if_neg (by rintro ⟨a, _⟩; exact a e), if_pos (by rw [h, e]; simp), nearP_at (W := W) (H := H) hb hu rfl rfl (.inr h)]
    · rw [if_pos ⟨e, by rw [h]; decide⟩, if_neg (by rw [h]; simp [e])]
/-- h bounds how far each cell is from g. -/
theorem pot {st : Nat → List Nat} {n : Nat} {h : Nat → Nat} (hs : ∀ u, u < n → ∀ c ∈ st u, c < n ∧ h u ≤ h c + 1) {l k c : Nat} (hw : Wk st l k c) (hl : l < n) : c < n ∧ h l ≤ h c + k := by
  induction hw with
  | nil => exact ⟨hl, Nat.le_refl _⟩
  | step _ hc ih =>
    obtain ⟨h1, h2⟩ := ih
    obtain ⟨h3, h4⟩ := hs _ h1 _ hc
    exact ⟨h3, by omega⟩
theorem FstW.uniq {st : Nat → List Nat} {s g : Nat} {Q R : List Nat} (h : FstW st s g Q) (r : FstW st s g R) (hl : Q.length = R.length) : Q = R := by
  have key : ∀ (k : Nat), (∀ (j : Nat), j < k → Q[j]? = R[j]?) := by
    intro k
    induction k with
    | zero => intro j hj; omega
    | succ k ih =>
      intro j hj
      rcases Nat.lt_or_ge j k with h1 | h1
      · exact ih j h1
      · obtain rfl : j = k := by omega
        rcases Nat.lt_or_ge j Q.length with h2 | h2
        · obtain ⟨a, ha⟩ : ∃ b, Q[j]? = some b := ⟨_, List.getElem?_eq_getElem h2⟩
          obtain ⟨b, hb⟩ : ∃ b, R[j]? = some b := ⟨_, List.getElem?_eq_getElem (by omega)⟩
          have hn : nd s Q j = nd s R j := by
            cases j with
            | zero => rfl
            | succ j =>
              show Q.getD j 0 = R.getD j 0
              rw [List.getD_eq_getElem?_getD, List.getD_eq_getElem?_getD, ih j (by omega)]
          obtain ⟨w1, m1, a1, a2⟩ := h.at_ j a ha
          obtain ⟨w2, m2, b1, b2⟩ := r.at_ j b hb
          rw [hn] at a1 a2
          rw [← hl] at w2 b2
          rcases Nat.lt_trichotomy m1 m2 with e | e | e
          · exact absurd w1 (b2 _ _ e a1)
          · subst e; rw [a1] at b1; rw [ha, hb, b1]
          · exact absurd w2 (a2 _ _ e b1)
        · rw [List.getElem?_eq_none h2, List.getElem?_eq_none (by omega)]
  exact List.ext_getElem? fun j => key (j + 1) j (by omega)
/-- A way, reckoned: Q[k] is the m[k]-th neighbour, and ahead of it all are too far. -/
structure Way (st : Nat → List Nat) (h : Nat → Nat) (n s g : Nat) (Q ms : List Nat) : Prop where
  en : nd s Q Q.length = g
  ok : ∀ k, k < Q.length → (st (nd s Q k))[ms.getD k 0]? = Q[k]? ∧ ∀ m', m' < ms.getD k 0 → ∀ l ∈ (st (nd s Q k))[m']?, Q.length - 1 - k < h l
theorem Way.walk {st : Nat → List Nat} {h : Nat → Nat} {n s g : Nat} {Q ms : List Nat} (w : Way st h n s g Q ms) : ∀ d k, k + d = Q.length → Wk st (nd s Q k) d g := by
  intro d
  induction d with
  | zero => intro k hk; rw [← w.en, show k = Q.length by omega]; exact .nil
  | succ d ih =>
    intro k hk
    obtain ⟨b, hb⟩ : ∃ b, Q[k]? = some b := ⟨_, List.getElem?_eq_getElem (by omega)⟩
    have h1 := (w.ok k (by omega)).1
    rw [hb] at h1
    have := ih (k + 1) (by omega)
    rw [nd_succ hb] at this
    exact .front (List.mem_of_getElem? h1) this
theorem Way.fst {st : Nat → List Nat} {h : Nat → Nat} {n s g : Nat} {Q ms : List Nat} (w : Way st h n s g Q ms) (hs : ∀ u, u < n → ∀ c ∈ st u, c < n ∧ h u ≤ h c + 1) (hsn : s < n) (hg : h g = 0) : FstW st s g Q := by
  have ndn : ∀ k, k ≤ Q.length → nd s Q k < n := by
    intro k
    induction k with
    | zero => intro _; exact hsn
    | succ k ih =>
      intro hk
      obtain ⟨b, hb⟩ : ∃ b, Q[k]? = some b := ⟨_, List.getElem?_eq_getElem (by omega)⟩
      have h1 := (w.ok k (by omega)).1
      rw [hb] at h1
      rw [nd_succ hb]
      exact (hs _ (ih (by omega)) b (List.mem_of_getElem? h1)).1
  refine ⟨w.en, fun k b hb => ?_⟩
  have hl := (List.getElem?_eq_some_iff.1 hb).1
  obtain ⟨h1, h2⟩ := w.ok k hl
  rw [hb] at h1
  refine ⟨?_, _, h1, fun m' l hm hl2 hw => ?_⟩
  · have := w.walk (Q.length - 1 - k) (k + 1) (by omega)
    rwa [nd_succ hb] at this
  · have h3 := h2 m' hm l hl2
    have h4 := (pot hs hw (hs _ (ndn k (by omega)) l (List.mem_of_getElem? hl2)).1).2
    omega
theorem Way.dst {st : Nat → List Nat} {h : Nat → Nat} {n s g : Nat} {Q ms : List Nat} (w : Way st h n s g Q ms) (hs : ∀ u, u < n → ∀ c ∈ st u, c < n ∧ h u ≤ h c + 1) (hsn : s < n) (hg : h g = 0) (hh : h s = Q.length) : dst st s g = (Q.length : Int) :=
  (dst_isD st s g).uniq (.inr ⟨Q.length, rfl, w.walk Q.length 0 (by omega), fun k hk => by have := (pot hs hk hsn).2; omega⟩)
end Go.Proofs.YtgdokpfepfmbmaaDoor

namespace Go.Proofs.YtgdokpfepfmbmaaDoor
set_option linter.unusedVariables false
set_option linter.unusedSimpArgs false
open Go.RowKit

/-- The next level, out of level k. -/
def lvN (T : Int → List (Int × Int)) (st : Nat → List Nat) (n : Nat) (s0 : Int) (k : Nat) (L : List Nat) : List Nat := (List.range n).filter fun c => isF (T c) (s0 + ((k + 1 : Nat) : Int)) && (L.contains c || L.any fun u => (st u).contains c)
def lvOk (T : Int → List (Int × Int)) (st : Nat → List Nat) (n : Nat) (s0 : Int) : Nat → List Nat → List (List Nat) → Bool
  | _, _, [] => true
  | k, L, M :: R => (lvN T st n s0 k L == M) && lvOk T st n s0 (k + 1) M R
def plC (near : Nat → List Nat) (fr : Nat) (s0 t0 : Int) (ok : Nat → Bool) (LL : List (List Nat)) : Nat → Nat → List (Int × Int)
  | 0, _ => []
  | k + 1, a => if a = fr ∧ s0 + ((k + 1 : Nat) : Int) < t0 then [] else match (near a).find? (fun c => ok c && (LL.getD k []).contains c) with | some c => plC near fr s0 t0 ok LL k c ++ [((a : Int), s0 + ((k + 1 : Nat) : Int))] | none => plC near fr s0 t0 ok LL k a
section
variable {T : Int → List (Int × Int)} {st near : Nat → List Nat} {fr n : Nat} {s0 : Int} {ok : Nat → Bool}
theorem lvN_iff (hlt : ∀ k c, Rch T st fr s0 k c → c < n) {k : Nat} {L : List Nat} (h : ∀ c, c ∈ L ↔ Rch T st fr s0 k c) (c : Nat) : c ∈ lvN T st n s0 k L ↔ Rch T st fr s0 (k + 1) c := by
  unfold lvN
  rw [List.mem_filter, List.mem_range]
  simp only [Bool.and_eq_true, Bool.or_eq_true, List.contains_iff_mem, List.any_eq_true]
  constructor
  · rintro ⟨_, h1, h2 | ⟨u, h2, h3⟩⟩
    · exact ⟨h1, .inl ((h c).1 h2)⟩
    · exact ⟨h1, .inr ⟨u, (h u).1 h2, h3⟩⟩
  · intro hr
    refine ⟨hlt _ _ hr, ?_⟩
    obtain ⟨h1, h2 | ⟨u, h2, h3⟩⟩ := hr
    · exact ⟨h1, .inl ((h c).2 h2)⟩
    · exact ⟨h1, .inr ⟨u, (h u).2 h2, h3⟩⟩
theorem lv_rch (hlt : ∀ k c, Rch T st fr s0 k c → c < n) : ∀ (R : List (List Nat)) (k : Nat) (L : List Nat), (∀ c, c ∈ L ↔ Rch T st fr s0 k c) → lvOk T st n s0 k L R = true → ∀ (j : Nat) M, (L :: R)[j]? = some M → ∀ c, c ∈ M ↔ Rch T st fr s0 (k + j) c := by
  intro R
  induction R with
  | nil =>
    intro k L h _ j M hM
    cases j with
    | zero => simp at hM; subst hM; exact h
    | succ j => simp at hM
  | cons N R ih =>
    intro k L h hok j M hM
    rw [lvOk, Bool.and_eq_true, beq_iff_eq] at hok
    cases j with
    | zero => simp at hM; subst hM; exact h
    | succ j =>
      have h2 := ih (k + 1) N (fun c => by rw [← hok.1]; exact lvN_iff hlt h c) hok.2 j M (by simpa using hM)
      rw [show k + (j + 1) = k + 1 + j by omega]
      exact h2
theorem plC_eq {LL : List (List Nat)} (h : ∀ (j : Nat) M, LL[j]? = some M → ∀ c, c ∈ M ↔ Rch T st fr s0 j c) : ∀ (k a : Nat), k ≤ LL.length → plP T st near fr s0 ok k a = plC near fr s0 (to0 T fr s0) ok LL k a := by
  intro k
  induction k with
  | zero => intro a _; rfl
  | succ k ih =>
    intro a hk
    have e : cmP T st near fr s0 ok k a = (near a).find? (fun c => ok c && (LL.getD k []).contains c) := by
      unfold cmP
      congr 1
      funext c
      congr 1
      obtain ⟨M, hM⟩ : ∃ M, LL[k]? = some M := ⟨_, List.getElem?_eq_getElem (by omega)⟩
      rw [List.getD_eq_getElem?_getD, hM, Option.getD_some, Bool.eq_iff_iff, List.contains_iff_mem, h k M hM c]
      simp
    rw [plC, plP, e]
    split
    · rfl
    · cases (near a).find? (fun c => ok c && (LL.getD k []).contains c) with
      | none => exact ih a (by omega)
      | some c => simp only; rw [ih c (by omega)]
end
theorem planR_at {f : Flr} {T : Int → List (Int × Int)} {fr tg A k : Nat} {s0 : Int} (hok : spOk f fr s0 = true) (hA : A ≤ 1024) (hop : opQ f tg = true) (hne : tg ≠ fr) (h0 : 0 ≤ s0) (hk : k ≤ A) (hr : Rch T (stepsP f fr []) fr s0 k tg) (hb : ∀ j, j < k → ¬ Rch T (stepsP f fr []) fr s0 j tg) : planR f T (fr : Int) s0 (tg : Int) (A : Int) = (plF f T fr s0 k tg, 0) := by
  have e : sn T (stepsP f fr []) fr s0 A tg = s0 + k := by
    refine (sn_is T (stepsP f fr []) fr s0 A tg).uniq (.inr ⟨k, hk, rfl, hr, fun j hj => ?_⟩)
    rcases Nat.lt_or_ge j k with h | h
    · exact absurd hj (hb j h)
    · exact h
  unfold planR
  rw [if_pos ⟨hok, by simp; omega, hop⟩, if_neg (by omega)]
  simp only [Int.toNat_natCast, e]
  rw [if_neg (by omega), show (s0 + (k : Int) - s0).toNat = k by omega]
/-- A whole plan, reckoned. -/
theorem planR_of {f : Flr} {T : Int → List (Int × Int)} {st near : Nat → List Nat} {fr tg A k : Nat} {s0 : Int} {R : List (List Nat)} {P : List (Int × Int)} (hst : stepsP f fr [] = st) (hnr : ∀ c, c < f.s.size → nearP f c = near c) (hok : spOk f fr s0 = true) (hA : A ≤ 1024) (hop : opQ f tg = true) (hne : tg ≠ fr) (h0 : 0 ≤ s0) (hk : k ≤ A) (hin : ∀ u, u < f.s.size → ∀ c ∈ st u, c < f.s.size) (hf : fr < f.s.size) (hlv : lvOk T st f.s.size s0 0 [fr] R = true) (hkl : ([fr] :: R)[k]?.map (fun M => M.contains tg) = some true) (hb : (([fr] :: R).take k).all (fun M => !M.contains tg) = true) (hP : plC near fr s0 (to0 T fr s0) (okF f fr) ([fr] :: R) k tg = P) (hnin : ∀ u, u < f.s.size → ∀ c ∈ near u, c < f.s.size) (htg : tg < f.s.size) : planR f T (fr : Int) s0 (tg : Int) (A : Int) = (P, 0) := by
  subst hst
  have hlt : ∀ k c, Rch T (stepsP f fr []) fr s0 k c → c < f.s.size := by
    intro k
    induction k with
    | zero => intro c hc; have hc : c = fr := hc; omega
    | succ k ih =>
      rintro c ⟨_, hc | ⟨u, hu, hcu⟩⟩
      · exact ih c hc
      · exact hin u (ih u hu) c hcu
  have L0 := lv_rch hlt R 0 [fr] (fun c => by simp [Rch]) hlv
  have L : ∀ (j : Nat) M, ([fr] :: R)[j]? = some M → ∀ c, c ∈ M ↔ Rch T (stepsP f fr []) fr s0 j c := fun j M hM c => by have := L0 j M hM c; rwa [Nat.zero_add] at this
  obtain ⟨M, hM⟩ : ∃ M, ([fr] :: R)[k]? = some M := by
    cases h : ([fr] :: R)[k]? with
    | none => rw [h] at hkl; simp at hkl
    | some M => exact ⟨M, rfl⟩
  have hMl := (List.getElem?_eq_some_iff.1 hM).1
  rw [hM] at hkl
  simp only [Option.map_some, Option.some.injEq, List.contains_iff_mem] at hkl
  rw [planR_at hok hA hop hne h0 hk ((L k M hM tg).1 hkl) (fun j hj hr => by
    obtain ⟨N, hN⟩ : ∃ N, ([fr] :: R)[j]? = some N := ⟨_, List.getElem?_eq_getElem (by omega)⟩
    have h1 := (L j N hN tg).2 hr
    rw [List.all_eq_true] at hb
    have h2 := hb N (List.mem_of_getElem? (i := j) (by rw [List.getElem?_take, if_pos hj]; exact hN))
    simp at h2
    exact h2 h1)]
  congr 1
  rw [← hP]
  unfold plF
  rw [plC_eq L k tg (by omega)]
  have key : ∀ k a, a < f.s.size → plC (fun c => nearP f c) fr s0 (to0 T fr s0) (okF f fr) ([fr] :: R) k a = plC near fr s0 (to0 T fr s0) (okF f fr) ([fr] :: R) k a := by
    intro k
    induction k with
    | zero => intro a _; rfl
    | succ k ih =>
      intro a ha
      rw [plC, plC, hnr a ha]
      split
      · rfl
      · cases hc : (near a).find? (fun c => okF f fr c && (([fr] :: R).getD k []).contains c) with
        | none => exact ih a ha
        | some c => simp only; rw [ih c (hnin a ha c (List.mem_of_find?_eq_some hc))]
  exact key k tg htg
end Go.Proofs.YtgdokpfepfmbmaaDoor

namespace Go.Proofs.YtgdokpfepfmbmaaDoor
set_option linter.unusedVariables false
set_option linter.unusedSimpArgs false
open Go.RowKit

def fG : Flr := ⟨5, 1, ⟨#[48, 97, 97, 98, 49]⟩⟩
theorem fG_right : rightB fG = true := rightC_ok (W := 5) (H := 1) (by kernel_rfl)
theorem parse_G : parseP ⟨#[48, 97, 97, 98, 49, 10]⟩ = (fG, 0, 0) := parseP_of (W := 5) (H := 1) (R := [⟨#[48, 97, 97, 98, 49]⟩]) (by kernel_rfl) (by kernel_rfl) (by kernel_rfl) (by kernel_rfl) (by kernel_rfl) (by kernel_rfl)
def stG (u : Nat) : List Nat := ([[1], [2, 0], [3, 1], [4, 2], []] : List (List Nat)).getD u []
def nrG (u : Nat) : List Nat := ([[1], [2, 0], [3, 1], [4, 2], [3]] : List (List Nat)).getD u []
theorem st_G : stepsP fG 0 [] = stG := by
  funext u
  rcases Nat.lt_or_ge u 5 with h | h
  · have e : stepsP fG 0 [] u = stepsC 5 1 ⟨#[48, 97, 97, 98, 49]⟩ 0 [] u := stepsC_eq (W := 5) (H := 1) (s := ⟨#[48, 97, 97, 98, 49]⟩) fG_right (by decide) [] h
    rw [e]
    have key : ∀ u, u < 5 → stepsC 5 1 ⟨#[48, 97, 97, 98, 49]⟩ 0 [] u = stG u := by decide
    exact key u h
  · have : nearP fG (u : Int) = [] := nearP_no (fun h2 => by have := h2.2.1; have h3 : fG.s.size = 5 := rfl; simp [h3] at this; omega)
    unfold stepsP
    have e : stG u = [] := by
      unfold stG
      rw [List.getD_eq_getElem?_getD, List.getElem?_eq_none (by simpa using h)]; rfl
    rw [e]
    split
    · rfl
    · rw [this]; rfl
theorem nr_G : ∀ c : Nat, c < 5 → nearP fG (c : Int) = nrG c := by
  intro c hc
  have e : nearP fG (c : Int) = stepsP fG c [] c := by
    unfold stepsP
    rw [if_neg (by rintro ⟨a, _⟩; exact a rfl)]
    simp only [List.not_mem_nil, decide_false, Bool.not_false]
    exact (List.filter_eq_self.2 (fun _ _ => rfl)).symm
  have key1 : ∀ c, c < 5 → kdS ⟨#[48, 97, 97, 98, 49]⟩ c ≠ 1 := by decide
  have e2 : stepsP fG c [] c = stepsC 5 1 ⟨#[48, 97, 97, 98, 49]⟩ c [] c := stepsC_eq (W := 5) (H := 1) (s := ⟨#[48, 97, 97, 98, 49]⟩) fG_right (key1 c hc) [] hc
  rw [e, e2]
  have key : ∀ u, u < 5 → stepsC 5 1 ⟨#[48, 97, 97, 98, 49]⟩ u [] u = nrG u := by decide
  exact key c hc
theorem ok_G : spOk fG 0 0 = true := by unfold spOk ptOk; rw [fG_right]; decide
def TG1 : Int → List (Int × Int) := takeT (fun _ => []) 2 2 5
def TG2 : Int → List (Int × Int) := takeT TG1 1 4 9
theorem tg_all : (0 : Int) = takeE [] 2 5 ∧ (0 : Int) = takeE (TG1 1) 4 9 := by decide
theorem plan_a : planR fG (fun _ => []) 0 0 3 20 = ([(1, 1), (2, 2), (3, 3)], 0) :=
  planR_of (near := nrG) (fr := 0) (tg := 3) (A := 20) (k := 3) (R := [[0, 1], [0, 1, 2], [0, 1, 2, 3]]) (P := [(1, 1), (2, 2), (3, 3)]) st_G nr_G ok_G (by decide) (by decide) (by decide) (by decide) (by decide) (by decide) (by decide) (by decide) (by decide) (by decide) (by decide) (by decide) (by decide)
theorem plan_b : planR fG TG1 0 0 3 20 = ([(1, 4), (2, 5), (3, 6)], 0) :=
  planR_of (near := nrG) (fr := 0) (tg := 3) (A := 20) (k := 6) (R := [[0, 1], [0, 1], [0, 1], [0, 1], [0, 1, 2], [0, 1, 2, 3]]) (P := [(1, 4), (2, 5), (3, 6)]) st_G nr_G ok_G (by decide) (by decide) (by decide) (by decide) (by decide) (by decide) (by decide) (by decide) (by decide) (by decide) (by decide) (by decide) (by decide)
theorem plan_c : planR fG TG2 0 0 3 20 = ([(1, 9), (2, 10), (3, 11)], 0) :=
  planR_of (near := nrG) (fr := 0) (tg := 3) (A := 20) (k := 11) (R := [[0, 1], [0, 1], [0, 1], [0], [0], [0], [0], [0], [0, 1], [0, 1, 2], [0, 1, 2, 3]]) (P := [(1, 9), (2, 10), (3, 11)]) st_G nr_G ok_G (by decide) (by decide) (by decide) (by decide) (by decide) (by decide) (by decide) (by decide) (by decide) (by decide) (by decide) (by decide) (by decide)
theorem wf_G1 : WFT TG1 := WFT.nil.take _ _ _
theorem wf_G2 : WFT TG2 := wf_G1.take _ _ _
theorem fl_G : (∀ c : Nat, c < 5 → (freeL ((fun _ => [] : Int → List (Int × Int)) (c : Int))).length ≤ 10) ∧ (∀ c : Nat, c < 5 → (freeL (TG1 (c : Int))).length ≤ 10) ∧ (∀ c : Nat, c < 5 → (freeL (TG2 (c : Int))).length ≤ 10) := by decide
end Go.Proofs.YtgdokpfepfmbmaaDoor
