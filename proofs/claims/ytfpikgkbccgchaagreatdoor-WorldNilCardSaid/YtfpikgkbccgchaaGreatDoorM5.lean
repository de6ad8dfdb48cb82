/- A robot, plain; What a call may change, told by the blocks' types; robot: the memory; New, Charge, Done, Packet, Heard, Next, Cells; robot: Step; record: may, TakeAct; record.TakeAct; robot: heard, Hear; Slices of ints; carfaxref03.SameInts; robot: Next, Cells; carfaxref17: LayAct. No condition. -/
import Derived.Test.YtfpikgkbccgchaaGreatDoorM3
import Derived.Test.YtfpikgkbccgchaaGreatDoorM4
import Derived.Test.YtfpikgkbccgchaaGreatDoorM1
import Derived.Deep.RegionHeld3
import Derived.Test.YtfpikgkbccgchaaGreatDoorM2
import Derived.StillTailTactics

namespace Go.Proofs.YtfpikgkbccgchaaGreatDoor
set_option linter.unusedVariables false
set_option linter.unusedSimpArgs false

/-- A robot. -/
structure Rob where
  dock : Int
  cell : Int
  to_ : Int
  full : Int
  charge : Int
  act : Option (Nat × Int × Int)
  done : Nat
  heard : Nat
  told : Nat
  on : Bool

structure Rob.ok (R : Rob) : Prop where
  act : ∀ k c p, R.act = some (k, c, p) → mayA k c p = true
  go : R.to_ = -1 ∨ ((∃ p, R.act = some (1, R.to_, p)) ∧ 0 ≤ R.to_)
  ch : 0 ≤ R.charge
  chb : R.charge ≤ 9223372036854775807
  fullb : 0 ≤ R.full ∧ R.full ≤ 9223372036854775807
  done : R.done < 18446744073709551616
  heard : R.heard < 18446744073709551616
  told : R.told < 18446744073709551616
  on : R.on = true → R.told < 18446744073709551614

/-- A new robot. -/
def newRob (dock charge : Int) : Rob := ⟨dock, dock, -1, charge, charge, none, 0, 0, 0, false⟩
def newRobE (dock charge : Int) : Bool := decide (dock < 0) || decide (255 < dock) || decide (charge < 0)
theorem newRob_ok {dock charge : Int} (h : newRobE dock charge = false) (hb : charge ≤ 9223372036854775807) : (newRob dock charge).ok := by
  unfold newRobE at h
  simp only [Bool.or_eq_false_iff, decide_eq_false_iff_not] at h
  have h3 : 0 ≤ charge := by have := h.2; omega
  exact ⟨(fun _ _ _ e => by cases e), .inl rfl, h3, hb, ⟨h3, hb⟩, (by show (0 : Nat) < _; decide), (by show (0 : Nat) < _; decide), (by show (0 : Nat) < _; decide), fun e => by cases e⟩

/-- What is to be sent back. -/
def hearB (R : Rob) (F : List Nat) : List Nat := if ackB R.heard F then layL true (tkN F) [] else []
/-- Is an act taken? -/
def takesB (R : Rob) (F : List Nat) : Bool := freshB R.heard F && R.act.isNone && tkaOk (tkD F)
/-- The robot, when it has heard. -/
def hearS (R : Rob) (F : List Nat) : Rob :=
  { R with
    heard := if freshB R.heard F then nxt R.heard else R.heard
    act := if takesB R F then some (aK (tkD F), (aC (tkD F) : Int), (aP (tkD F) : Int)) else R.act
    told := if takesB R F && R.on then R.told + 1 else R.told
    on := R.on && !takesB R F }
theorem nxt_lt (h : Nat) : nxt h < 18446744073709551616 := Nat.mod_lt _ (by decide)
theorem hearS_ok {R : Rob} (h : R.ok) (F : List Nat) : (hearS R F).ok := by
  obtain ⟨h1, h2, h3, h4, h5, h6, h7, h8, h9⟩ := h
  refine ⟨fun k c p e => ?_, ?_, h3, h4, h5, h6, ?_, ?_, ?_⟩
  · show mayA k c p = true
    have e : (if takesB R F then some (aK (tkD F), (aC (tkD F) : Int), (aP (tkD F) : Int)) else R.act) = some (k, c, p) := e
    cases ht : takesB R F
    · rw [ht] at e; exact h1 k c p e
    · rw [ht, if_pos rfl] at e
      simp only [Option.some.injEq, Prod.mk.injEq] at e
      obtain ⟨rfl, rfl, rfl⟩ := e
      have := ht
      unfold takesB tkaOk at this
      simp only [Bool.and_eq_true] at this
      exact this.2.2
  · show R.to_ = -1 ∨ (∃ p, (if takesB R F then some (aK (tkD F), (aC (tkD F) : Int), (aP (tkD F) : Int)) else R.act) = some (1, R.to_, p)) ∧ 0 ≤ R.to_
    rcases h2 with h2 | ⟨⟨p, h2⟩, h10⟩
    · exact .inl h2
    · refine .inr ⟨⟨p, ?_⟩, h10⟩
      have : takesB R F = false := by unfold takesB; rw [h2]; simp
      rw [this]; exact h2
  · show (if freshB R.heard F then nxt R.heard else R.heard) < _
    split
    · exact nxt_lt _
    · exact h7
  · show (if takesB R F && R.on then R.told + 1 else R.told) < _
    split
    · rename_i h; simp only [Bool.and_eq_true] at h; have := h9 h.2; omega
    · exact h8
  · intro e
    have e : (R.on && !takesB R F) = true := e
    simp only [Bool.and_eq_true, Bool.not_eq_true'] at e
    show (if takesB R F && R.on then R.told + 1 else R.told) < _
    rw [e.2]; exact h9 e.1

/-- An act is done: it is told. -/
def doneS (R : Rob) : Rob := { R with act := none, done := (R.done + 1) % 18446744073709551616, on := R.on || decide (tellE R.told R.on [] = 0) }
/-- One step: is an act done by it; the robot behind it. -/
def stepB (R : Rob) : Bool := match R.act with
  | none => false
  | some (k, _, _) => !(decide (k = 1) && decide (R.to_ = -1))
def stepS (R : Rob) : Rob := match R.act with
  | none => R
  | some (k, c, _) => if k = 1 then (if R.to_ = -1 then (if 0 < R.charge then { R with charge := R.charge - 1, to_ := c } else R) else doneS { R with cell := R.to_, to_ := -1, charge := if R.to_ = R.dock then R.full else R.charge }) else doneS R
theorem doneS_ok {R : Rob} (h : R.ok) (hn : R.to_ = -1) : (doneS R).ok := by
  obtain ⟨h1, h2, h3, h4, h5, h6, h7, h8, h9⟩ := h
  refine ⟨(fun _ _ _ e => by cases e), .inl hn, h3, h4, h5, Nat.mod_lt _ (by decide), h7, h8, fun e => ?_⟩
  have e : (R.on || decide (tellE R.told R.on [] = 0)) = true := e
  show R.told < _
  cases ho : R.on
  · rw [ho] at e
    simp only [Bool.false_or, decide_eq_true_eq] at e
    unfold tellE at e
    rw [if_neg (by decide)] at e
    split at e
    · cases e
    · rename_i z; omega
  · exact h9 ho
theorem stepS_ok {R : Rob} (h : R.ok) : (stepS R).ok := by
  unfold stepS
  split
  · exact h
  · rename_i k c p he
    split
    · rename_i hk
      subst hk
      split
      · split
        · rename_i hn hc
          have hm := mayA_spec (h.act _ _ _ he)
          refine ⟨h.act, .inr ⟨⟨p, he⟩, hm.2.2.1⟩, ?_, ?_, h.fullb, h.done, h.heard, h.told, h.on⟩
          · show 0 ≤ R.charge - 1; omega
          · show R.charge - 1 ≤ _; have := h.chb; omega
        · exact h
      · refine doneS_ok (R := { R with cell := R.to_, to_ := -1, charge := if R.to_ = R.dock then R.full else R.charge }) ⟨h.act, .inl rfl, ?_, ?_, h.fullb, h.done, h.heard, h.told, h.on⟩ rfl
        · show 0 ≤ (if R.to_ = R.dock then R.full else R.charge)
          split
          · exact h.fullb.1
          · exact h.ch
        · show (if R.to_ = R.dock then R.full else R.charge) ≤ _
          split
          · exact h.fullb.2
          · exact h.chb
    · rename_i hk
      refine doneS_ok h ?_
      rcases h.go with h2 | ⟨⟨p', h2⟩, _⟩
      · exact h2
      · rw [he] at h2
        simp only [Option.some.injEq, Prod.mk.injEq] at h2
        exact absurd h2.1 hk

/-- What comes back is heard. -/
def heardS (R : Rob) (F : List Nat) : Rob := { R with told := if heardB R.told R.on F then R.told + 1 else R.told, on := R.on && !heardB R.told R.on F }
theorem heardS_ok {R : Rob} (h : R.ok) (F : List Nat) : (heardS R F).ok := by
  obtain ⟨h1, h2, h3, h4, h5, h6, h7, h8, h9⟩ := h
  refine ⟨h1, h2, h3, h4, h5, h6, h7, ?_, fun e => ?_⟩
  · show (if heardB R.told R.on F then R.told + 1 else R.told) < _
    split
    · rename_i hh
      unfold heardB at hh
      simp only [Bool.and_eq_true] at hh
      have := h9 hh.1.1.1; omega
    · exact h8
  · have e : (R.on && !heardB R.told R.on F) = true := e
    simp only [Bool.and_eq_true, Bool.not_eq_true'] at e
    show (if heardB R.told R.on F then R.told + 1 else R.told) < _
    rw [e.2]; exact h9 e.1
/-- The cells in which it is. -/
def cellsL (R : Rob) : List Int := if R.to_ = -1 ∨ R.to_ = R.cell then [R.cell] else [R.cell, R.to_]
/-- The act of a robot, as three numbers. -/
def actK (R : Rob) : Nat := match R.act with | none => 0 | some (k, _, _) => k
def actC (R : Rob) : Int := match R.act with | none => 0 | some (_, c, _) => c
def actP (R : Rob) : Int := match R.act with | none => 0 | some (_, _, p) => p
end Go.Proofs.YtfpikgkbccgchaaGreatDoor

namespace Go.Proofs.YtfpikgkbccgchaaGreatDoor
set_option linter.unusedVariables false
set_option linter.unusedSimpArgs false
open Go.RowKit

/-- S names no block of bytes. -/
def Byt (w : World) (S : Nat → Prop) : Prop := ∀ g cs, w.heap[g]? = some (.cells cs 5 (0, 0)) → ¬ S g
theorem Byt.one {w : World} {p : Nat} {cs : Array Value} {t : TypeId} (h : w.heap[p]? = some (.cells cs t (0, 0))) (ht : t ≠ 5) : Byt w (fun k => k = p) := by
  rintro g cs' hg rfl
  rw [h] at hg
  simp only [Option.some.injEq, Obj.cells.injEq] at hg
  exact ht hg.2.1
theorem Byt.own {α : Type} {K : Kd α} {e : TypeId} {w : World} {V : Value} {l : List α} (h : Own K e w V l) (ht : e ≠ 5) : Byt w (fun k => V.ownBlock = some k) := by
  rintro g cs' hg hk
  rcases h with ⟨rfl, _⟩ | ⟨g', cap, cur, rfl, hb, _⟩
  · simp [Value.ownBlock] at hk
  · simp only [Value.ownBlock, Option.map_some, Option.some.injEq] at hk
    have hk : g' = g := hk
    subst hk
    rw [hb] at hg
    simp only [Option.some.injEq, Obj.cells.injEq] at hg
    exact ht hg.2.1
theorem Byt.or {w : World} {S T : Nat → Prop} (h : Byt w S) (k : Byt w T) : Byt w (fun g => S g ∨ T g) := fun g cs hg e => e.elim (h g cs hg) (k g cs hg)
theorem Byt.no (w : World) : Byt w No := fun _ _ _ => no_no _
theorem Own.kpB {w w' : World} {v : Value} {l : List Nat} {S : Nat → Prop} (h : Own BK 5 w v l) (hk : Kp S w w') (hs : Byt w S) : Own BK 5 w' v l := by
  refine h.kp hk fun g hg => ?_
  rcases h with ⟨rfl, _⟩ | ⟨g', cap, cur, rfl, hb, _⟩
  · simp [Value.ownBlock] at hg
  · have hg : g' = g := by simpa [Value.ownBlock] using hg
    subst hg
    exact hs g' cur hb
/-- The owned slices of two element types have two blocks. -/
theorem own_ne {α β : Type} {K : Kd α} {L : Kd β} {e f : TypeId} {w : World} {V U : Value} {l : List α} {m : List β} (h : Own K e w V l) (k : Own L f w U m) (ht : e ≠ f) : ∀ g, V.ownBlock = some g → ¬ U.ownBlock = some g := by
  intro g hg hk
  rcases h with ⟨rfl, _⟩ | ⟨g1, cap, cur, rfl, hb, _⟩
  · simp [Value.ownBlock] at hg
  rcases k with ⟨rfl, _⟩ | ⟨g2, cap2, cur2, rfl, hb2, _⟩
  · simp [Value.ownBlock] at hk
  have e1 : g1 = g := by simpa [Value.ownBlock] using hg
  have e2 : g2 = g := by simpa [Value.ownBlock] using hk
  subst e1 e2
  rw [hb] at hb2
  simp only [Option.some.injEq, Obj.cells.injEq] at hb2
  exact ht hb2.2.1
theorem own_neB {α : Type} {K : Kd α} {e t : TypeId} {w : World} {V : Value} {l : List α} {p : Nat} {cs : Array Value} (h : Own K e w V l) (k : w.heap[p]? = some (.cells cs t (0, 0))) (ht : e ≠ t) : ∀ g, V.ownBlock = some g → g ≠ p := by
  rintro g hg rfl
  rcases h with ⟨rfl, _⟩ | ⟨g1, cap, cur, rfl, hb, _⟩
  · simp [Value.ownBlock] at hg
  have e1 : g1 = g := by simpa [Value.ownBlock] using hg
  subst e1
  rw [hb] at k
  simp only [Option.some.injEq, Obj.cells.injEq] at k
  exact ht k.2.1

/-- S names only blocks of these types. -/
def Ty (w : World) (S : Nat → Prop) (ts : List TypeId) : Prop := ∀ g, S g → ∃ cs t, t ∈ ts ∧ w.heap[g]? = some (.cells cs t (0, 0))
section
variable {w w' : World} {S S2 : Nat → Prop} {ts us : List TypeId} {p : Nat} {cs : Array Value} {t : TypeId}
theorem Ty.no (w : World) : Ty w No [] := fun _ h => h.elim
theorem Ty.one (h : w.heap[p]? = some (.cells cs t (0, 0))) : Ty w (fun k => k = p) [t] := fun g e => ⟨cs, t, by simp, by rw [e]; exact h⟩
theorem Ty.own {α : Type} {K : Kd α} {V : Value} {l : List α} (h : Own K t w V l) : Ty w (fun k => V.ownBlock = some k) [t] := by
  intro g e
  rcases h with ⟨rfl, _⟩ | ⟨g1, cap, cur, rfl, hb, _⟩
  · simp [Value.ownBlock] at e
  have e1 : g1 = g := by simpa [Value.ownBlock] using e
  subst e1
  exact ⟨_, t, by simp, hb⟩
theorem Ty.or (h : Ty w S ts) (k : Ty w S2 us) : Ty w (fun g => S g ∨ S2 g) (ts ++ us) := by
  rintro g (e | e)
  · obtain ⟨cs, t, h1, h2⟩ := h g e; exact ⟨cs, t, List.mem_append_left _ h1, h2⟩
  · obtain ⟨cs, t, h1, h2⟩ := k g e; exact ⟨cs, t, List.mem_append_right _ h1, h2⟩
theorem Ty.not (h : Ty w S ts) (hb : w.heap[p]? = some (.cells cs t (0, 0))) (ht : t ∉ ts) : ¬ S p := by
  intro e
  obtain ⟨cs', t', h1, h2⟩ := h p e
  rw [hb] at h2
  simp only [Option.some.injEq, Obj.cells.injEq] at h2
  exact ht (h2.2.1 ▸ h1)
theorem Ty.notO {α : Type} {K : Kd α} {V : Value} {l : List α} (h : Ty w S ts) (o : Own K t w V l) (ht : t ∉ ts) : ∀ g, V.ownBlock = some g → ¬ S g := by
  intro g e
  obtain ⟨cs, t', h1, h2⟩ := Ty.own o g e
  have := List.mem_singleton.1 h1
  subst this
  exact h.not h2 ht
theorem Ty.byt (h : Ty w S ts) (ht : 5 ∉ ts) : Byt w S := fun g cs hg => h.not hg ht
end

end Go.Proofs.YtfpikgkbccgchaaGreatDoor

namespace Go.Proofs.YtfpikgkbccgchaaGreatDoor
set_option linter.unusedVariables false
set_option linter.unusedSimpArgs false
open Go.RowKit

def actV (pa : Option Nat) : Value := .pointer (pa.map fun a => ⟨a, 0, none⟩)
def robC (R : Rob) (pa : Option Nat) (ph ps : Nat) : Array Value :=
  #[.int .i64 R.dock, .int .i64 R.cell, .int .i64 R.to_, .int .i64 R.full, .int .i64 R.charge, actV pa, .int .u64 (R.done : Int), .pointer (some ⟨ph, 0, none⟩), .pointer (some ⟨ps, 0, none⟩)]
/-- A robot: p points to it. -/
structure RobS (p ph ps : Nat) (pa : Option Nat) (V : Value) (R : Rob) (w : World) : Prop where
  blk : w.heap[p]? = some (.cells (robC R pa ph ps) 147 (0, 0))
  non : R.act = none → pa = none
  act : ∀ k c q, R.act = some (k, c, q) → ∃ a, pa = some a ∧ w.heap[a]? = some (.cells #[.int .u8 (k : Int), .int .i64 c, .int .i64 q] 40 (0, 0))
  r : RcvS ph R.heard w
  s : SndS ps R.told R.on [] V w
section
variable {p ph ps : Nat} {pa : Option Nat} {V : Value} {R : Rob} {w w' : World} {S : Nat → Prop} {ts : List TypeId}
theorem RobS.far (h : RobS p ph ps pa V R w) (hk : Kp S w w') (hs : Ty w S ts) (ht : 147 ∉ ts ∧ 40 ∉ ts ∧ 185 ∉ ts ∧ 187 ∉ ts ∧ 5 ∉ ts) : RobS p ph ps pa V R w' :=
  ⟨hk.blk h.blk (hs.not h.blk ht.1), h.non, fun k c q e => let ⟨a, e1, e2⟩ := h.act k c q e; ⟨a, e1, hk.blk e2 (hs.not e2 ht.2.1)⟩, h.r.far hk (hs.not h.r.blk ht.2.2.1), h.s.far hk (hs.not h.s.blk ht.2.2.2.1) (hs.notO h.s.own ht.2.2.2.2)⟩
theorem RobS.no (h : RobS p ph ps pa V R w) (hk : Kp No w w') : RobS p ph ps pa V R w' := h.far hk (Ty.no w) ⟨by simp, by simp, by simp, by simp, by simp⟩
theorem RobS.cells (h : RobS p ph ps pa V R w) : w.cell? ⟨p, 0, none⟩ = some (.int .i64 R.dock) ∧ w.cell? ⟨p, 1, none⟩ = some (.int .i64 R.cell) ∧ w.cell? ⟨p, 2, none⟩ = some (.int .i64 R.to_) ∧ w.cell? ⟨p, 3, none⟩ = some (.int .i64 R.full) ∧
    w.cell? ⟨p, 4, none⟩ = some (.int .i64 R.charge) ∧ w.cell? ⟨p, 5, none⟩ = some (actV pa) ∧ w.cell? ⟨p, 6, none⟩ = some (.int .u64 (R.done : Int)) ∧ w.cell? ⟨p, 7, none⟩ = some (.pointer (some ⟨ph, 0, none⟩)) ∧ w.cell? ⟨p, 8, none⟩ = some (.pointer (some ⟨ps, 0, none⟩)) :=
  ⟨(blk_cell h.blk 0).trans rfl, (blk_cell h.blk 1).trans rfl, (blk_cell h.blk 2).trans rfl, (blk_cell h.blk 3).trans rfl, (blk_cell h.blk 4).trans rfl, (blk_cell h.blk 5).trans rfl, (blk_cell h.blk 6).trans rfl, (blk_cell h.blk 7).trans rfl, (blk_cell h.blk 8).trans rfl⟩
end

/-- A new robot is handed back, or an error. -/
def NewRobR (dock charge : Int) (w : World) (e : Ending) (w' : World) : Prop :=
  (newRobE dock charge = true ∧ e = .returned (.tuple #[.pointer none, .int .i64 1]) ∧ w = w') ∨
    (newRobE dock charge = false ∧ ∃ p ph ps, e = .returned (.tuple #[.pointer (some ⟨p, 0, none⟩), .int .i64 0]) ∧ RobS p ph ps none (.slice none 0 0) (newRob dock charge) w' ∧ Kp No w w' ∧ w.heap.size ≤ p ∧ w.heap.size ≤ ph ∧ w.heap.size ≤ ps)
set_option maxRecDepth 100000 in
theorem newRob_any (dock charge : Int) (w : World) : Calls Tryz.prog 35 #[.int .i64 dock, .int .i64 charge] w (NewRobR dock charge w) := by
  by_cases h1 : dock < 0
  · have hE : newRobE dock charge = true := by unfold newRobE; simp [h1]
    have HE := Lib.hid hE
    clear hE
    go_enter Tryz.func35, Tryz.ntmps35
    go_wp2
    go_ret2
    exact .inl ⟨HE.out, rfl, rfl⟩
  · by_cases h2 : 255 < dock
    · have hE : newRobE dock charge = true := by unfold newRobE; simp [h2]
      have HE := Lib.hid hE
      clear hE
      go_enter Tryz.func35, Tryz.ntmps35
      go_wp2
      go_ret2
      exact .inl ⟨HE.out, rfl, rfl⟩
    · by_cases h3 : charge < 0
      · have hE : newRobE dock charge = true := by unfold newRobE; simp [h3]
        have HE := Lib.hid hE
        clear hE
        go_enter Tryz.func35, Tryz.ntmps35
        go_wp2
        go_ret2
        exact .inl ⟨HE.out, rfl, rfl⟩
      · have hE : newRobE dock charge = false := by unfold newRobE; simp [h1, h2, h3]
        have HE := Lib.hid hE
        clear hE
        go_enter Tryz.func35, Tryz.ntmps35
        go_wp2_with fail
        refine (newRcv_any w 0 (by decide) _ rfl).mono ?_
        rintro e w1 ⟨ph, rfl, r1, k1, g1, l1⟩
        have R1 := Lib.hid r1; have K1 := Lib.hid k1; have G1 := Lib.hid g1
        clear r1 k1 g1 l1
        go_wp2_with fail
        refine (newSnd_any w1 0 (by decide) _ rfl).mono ?_
        rintro e w2 ⟨ps, rfl, s2, k2, g2, l2⟩
        have R2 := Lib.hid (R1.out.no k2); have K2 := Lib.hid (K1.out.trans k2); have G2 := Lib.hid (Nat.le_trans K1.out.size g2); have S2 := Lib.hid s2
        clear s2 k2 g2 l2
        go_wp2
        go_ret2
        exact .inr ⟨HE.out, w2.heap.size, ph, ps, rfl, ⟨blk_new w2 _, fun _ => rfl, fun _ _ _ e => by (cases e), R2.out.no ((Kp.refl _ _).alloc _), S2.out.no ((Kp.refl _ _).alloc _)⟩, K2.out.alloc _, K2.out.size, G1.out, G2.out⟩

theorem charge_any {p ph ps : Nat} {pa : Option Nat} {V : Value} {R : Rob} {w : World} (h : RobS p ph ps pa V R w) : Calls Tryz.prog 68 #[.pointer (some ⟨p, 0, none⟩)] w fun e w' => e = .returned (.int .i64 R.charge) ∧ w = w' := by
  have c := h.cells.2.2.2.2.1
  clear h
  go_enter Tryz.func68, Tryz.ntmps68
  go_wp2
  go_ret
  exact ⟨rfl, rfl⟩
theorem done_any {p ph ps : Nat} {pa : Option Nat} {V : Value} {R : Rob} {w : World} (h : RobS p ph ps pa V R w) : Calls Tryz.prog 69 #[.pointer (some ⟨p, 0, none⟩)] w fun e w' => e = .returned (.int .u64 (R.done : Int)) ∧ w = w' := by
  have c := h.cells.2.2.2.2.2.2.1
  clear h
  go_enter Tryz.func69, Tryz.ntmps69
  go_wp2
  go_ret
  exact ⟨rfl, rfl⟩

/-- The packet of what it tells. -/
theorem rpkt_any {p ph ps : Nat} {pa : Option Nat} {V : Value} {R : Rob} {w : World} (h : RobS p ph ps pa V R w) : Calls Tryz.prog 66 #[.pointer (some ⟨p, 0, none⟩)] w (PacketR R.told R.on [] w) := by
  obtain ⟨_, _, _, _, _, _, _, _, c8⟩ := h.cells
  have H := Lib.hid h
  clear h
  go_enter Tryz.func66, Tryz.ntmps66
  go_wp2_with fail
  refine (packet_any H.out.s).mono ?_
  rintro e w1 ⟨v1, rfl, k1⟩
  obtain ⟨A1, c1, rfl⟩ := k1.own.rd.shape
  have K1 := Lib.hid k1
  clear k1
  go_wp2
  go_ret2
  exact ⟨_, rfl, K1.out⟩

/-- The robot is another one behind the call. -/
structure RobTo (p ph ps : Nat) (pa : Option Nat) (V : Value) (R' : Rob) (w w' : World) : Prop where
  tw : ∃ pa' V', RobS p ph ps pa' V' R' w' ∧ (∀ a, pa' = some a → pa = some a ∨ w.heap.size ≤ a) ∧ (∀ g, V'.ownBlock = some g → V.ownBlock = some g ∨ w.heap.size ≤ g)
  kp : Kp (fun k => k = p ∨ k = ph ∨ k = ps) w w'
theorem RobS.ty3 {p ph ps : Nat} {pa : Option Nat} {V : Value} {R : Rob} {w : World} (h : RobS p ph ps pa V R w) : Ty w (fun k => k = p ∨ k = ph ∨ k = ps) [147, 185, 187] := by
  rintro g (rfl | rfl | rfl)
  · exact ⟨_, _, by simp, h.blk⟩
  · exact ⟨_, _, by simp, h.r.blk⟩
  · exact ⟨_, _, by simp, h.s.blk⟩

/-- What came back is heard. -/
theorem rheard_any {p ph ps : Nat} {pa : Option Nat} {V v : Value} {R : Rob} {w : World} (h : RobS p ph ps pa V R w) {f : List Nat} (hv : Rd BK w v f) (hl : f.length ≤ 1000000) (hx : ∀ x ∈ f, x < 256) :
    Calls Tryz.prog 61 #[.pointer (some ⟨p, 0, none⟩), v] w fun e w' => e = .returned (.bool (heardB R.told R.on f)) ∧ RobTo p ph ps pa V (heardS R f) w w' := by
  obtain ⟨_, _, _, _, _, _, _, _, c8⟩ := h.cells
  have H := Lib.hid h; have HV := Lib.hid hv; have HX := Lib.hid hx
  clear h hv hx
  go_enter Tryz.func61, Tryz.ntmps61
  go_wp2_with fail
  refine (shear_any H.out.s HV.out hl HX.out).mono ?_
  rintro e w1 ⟨rfl, k1, s1⟩
  have K1 := Lib.hid k1; have S1 := Lib.hid s1
  clear k1 s1
  go_wp2
  go_ret
  have ty := Ty.one H.out.s.blk
  refine ⟨rfl, ⟨⟨pa, if heardB R.told R.on f then .slice none 0 0 else V, ⟨K1.out.blk H.out.blk (ty.not H.out.blk (by decide)), H.out.non, fun k c q e => ?_, H.out.r.far K1.out (ty.not H.out.r.blk (by decide)), ?_⟩, fun _ e => .inl e, ?_⟩, K1.out.mono fun _ _ e => .inr (.inr e)⟩⟩
  · obtain ⟨a, e1, e2⟩ := H.out.act k c q e
    exact ⟨a, e1, K1.out.blk e2 (ty.not e2 (by decide))⟩
  · have s := S1.out
    rw [ite_self] at s
    exact s
  · intro g hg
    split at hg
    · simp [Value.ownBlock] at hg
    · exact .inl hg
end Go.Proofs.YtfpikgkbccgchaaGreatDoor

namespace Go.Proofs.YtfpikgkbccgchaaGreatDoor
set_option linter.unusedVariables false
set_option linter.unusedSimpArgs false
open Go.RowKit

theorem RobTo.same {p ph ps : Nat} {pa : Option Nat} {V : Value} {R : Rob} {w w' : World} (h : RobS p ph ps pa V R w) (hk : Kp No w w') : RobTo p ph ps pa V R w w' :=
  ⟨⟨pa, V, h.no hk, fun _ e => .inl e, fun _ e => .inl e⟩, hk.mono fun _ _ e => e.elim⟩
theorem done_wrap (n : Nat) : IntKind.u64.wrap ((n : Int) + 1) = (nxt n : Int) := nxt_wrap n

/-- Behind a step. -/
def StepR (p ph ps : Nat) (pa : Option Nat) (V : Value) (R : Rob) (w : World) (e : Ending) (w' : World) : Prop := e = .returned (.bool (stepB R)) ∧ RobTo p ph ps pa V (stepS R) w w'
/-- An act is done, and told. -/
theorem robTo_done {p ph ps : Nat} {pa : Option Nat} {V : Value} {R R1 : Rob} {w w1 w2 : World} (h : RobS p ph ps pa V R w) (hb : w1.heap[p]? = some (.cells (robC (doneS R1) none ph ps) 147 (0, 0))) (hh : R1.heard = R.heard) (ht : R1.told = R.told) (ho : R1.on = R.on)
    (k1 : Kp (fun k => k = p) w w1) (k2 : TellR ps R.told R.on [] V [] w1 (.returned (.int .i64 (tellE R.told R.on []))) w2) : RobTo p ph ps pa V (doneS R1) w w2 := by
  obtain ⟨_, k2, V', s2, v2⟩ := k2
  have ty := Ty.one h.blk
  have s1 := h.s.far k1 (ty.not h.s.blk (by decide)) (ty.notO h.s.own (by decide))
  have r1 := h.r.far k1 (ty.not h.r.blk (by decide))
  have ty1 := Ty.one s1.blk
  have z := k1.size
  refine ⟨⟨none, V', ⟨k2.blk hb (ty1.not hb (by decide)), fun _ => rfl, fun _ _ _ e => by (cases e), ?_, ?_⟩, (fun a e => by cases e), fun g hg => (v2 g hg).imp id fun h => by omega⟩, (k1.mono fun _ _ e => .inl e).trans (k2.mono fun _ _ e => .inr (.inr e))⟩
  · show RcvS ph R1.heard w2
    rw [hh]; exact r1.far k2 (ty1.not r1.blk (by decide))
  · show SndS ps R1.told (R1.on || decide (tellE R1.told R1.on [] = 0)) [] V' w2
    rw [ht, ho]
    rw [ite_self] at s2
    exact s2

set_option maxHeartbeats 1000000 in
set_option maxRecDepth 100000 in
theorem step_any {p ph ps : Nat} {pa : Option Nat} {V : Value} {R : Rob} {w : World} (h : RobS p ph ps pa V R w) (ok : R.ok) : Calls Tryz.prog 65 #[.pointer (some ⟨p, 0, none⟩)] w (StepR p ph ps pa V R w) := by
  obtain ⟨c0, c1, c2, c3, c4, c5, c6, c7, c8⟩ := h.cells
  have f1 := blk_free h.blk 1; have f2 := blk_free h.blk 2; have f4 := blk_free h.blk 4; have f5 := blk_free h.blk 5; have f6 := blk_free h.blk 6
  have H := Lib.hid h; have OK := Lib.hid ok
  have hw := done_wrap R.done
  have hpl := lt_of_block h.blk
  have hch := ok.ch; have hchb := ok.chb
  have tyR := Ty.one h.blk
  have HPS := Lib.hid (show ps ≠ p from fun e => tyR.not h.s.blk (by decide) e)
  cases hact : R.act with
  | none =>
    have hE : stepB R = false := by unfold stepB; rw [hact]
    have hS : stepS R = R := by unfold stepS; rw [hact]
    obtain rfl := h.non hact
    have HE := Lib.hid hE; have HS := Lib.hid hS
    clear h ok tyR hE hS hact hw
    unfold actV at c5
    simp only [Option.map_none] at c5
    go_enter Tryz.func65, Tryz.ntmps65
    go_wp2
    go_ret
    exact ⟨by rw [HE.out]; rfl, by rw [HS.out]; exact RobTo.same H.out (Kp.refl _ _)⟩
  | some x =>
    obtain ⟨k, c, q⟩ := x
    obtain ⟨a, rfl, ba⟩ := h.act k c q hact
    have hm := mayA_spec (ok.act _ _ _ hact)
    have a0 : w.cell? ⟨a, 0, none⟩ = some (.int .u8 (k : Int)) := (blk_cell ba 0).trans rfl
    have a1 : w.cell? ⟨a, 1, none⟩ = some (.int .i64 c) := (blk_cell ba 1).trans rfl
    unfold actV at c5
    simp only [Option.map_some] at c5
    have nap : a ≠ p := fun e => tyR.not ba (by decide) e
    have HACT := Lib.hid hact
    have hgo := ok.go
    have hE : stepB R = !(decide (k = 1) && decide (R.to_ = -1)) := by unfold stepB; rw [hact]
    have hS : stepS R = if k = 1 then (if R.to_ = -1 then (if 0 < R.charge then { R with charge := R.charge - 1, to_ := c } else R) else doneS { R with cell := R.to_, to_ := -1, charge := if R.to_ = R.dock then R.full else R.charge }) else doneS R := by unfold stepS; rw [hact]
    have HE := Lib.hid hE; have HS := Lib.hid hS; have HBA := Lib.hid ba
    clear h ok tyR hE hS hact ba
    by_cases hk1 : k = 1
    · subst hk1
      by_cases ht : R.to_ = -1
      · have htb : (R.to_ == -1) = true := by rw [ht]; rfl
        by_cases hc : 0 < R.charge
        · have hS2 : stepS R = { R with charge := R.charge - 1, to_ := c } := by rw [HS.out, if_pos rfl, if_pos ht, if_pos hc]
          have HS2 := Lib.hid hS2
          have HE2 := Lib.hid (show stepB R = false by rw [HE.out, decide_eq_true ht]; rfl)
          have HM := Lib.hid hm
          have HT := Lib.hid ht
          have ew : IntKind.i64.wrap (R.charge - 1) = R.charge - 1 := IntWalk.i64_in _ (by omega)
          clear hS2 hm ht hgo hw
          go_enter Tryz.func65, Tryz.ntmps65
          go_wp2
          go_ret
          have bE := (blk_set (blk_set H.out.blk 4 (.int .i64 (R.charge - 1))) 2 (.int .i64 c))
          have kE := (Kp.one (w := w) (p := p) 4 (.int .i64 (R.charge - 1))).trans (Kp.one (p := p) 2 (.int .i64 c))
          refine ⟨by rw [HE2.out]; rfl, ?_⟩
          rw [HS2.out]
          have ty := Ty.one H.out.blk
          refine ⟨⟨some a, V, ⟨bE.trans rfl, H.out.non, fun k' c' q' e => ?_, H.out.r.far kE (ty.not H.out.r.blk (by decide)), H.out.s.far kE (ty.not H.out.s.blk (by decide)) (ty.notO H.out.s.own (by decide))⟩, fun _ e => .inl e, fun _ e => .inl e⟩, kE.mono fun _ _ e => .inl e⟩
          obtain ⟨a', e1, e2⟩ := H.out.act k' c' q' e
          exact ⟨a', e1, kE.blk e2 (ty.not e2 (by decide))⟩
        · have hS2 : stepS R = R := by rw [HS.out, if_pos rfl, if_pos ht, if_neg hc]
          have HS2 := Lib.hid hS2
          have HE2 := Lib.hid (show stepB R = false by rw [HE.out, decide_eq_true ht]; rfl)
          clear hS2 hm ht hgo hw
          go_enter Tryz.func65, Tryz.ntmps65
          go_wp2
          go_ret
          exact ⟨by rw [HE2.out]; rfl, by rw [HS2.out]; exact RobTo.same H.out (Kp.refl _ _)⟩
      · have htb : (R.to_ == -1) = false := by simpa using ht
        have HE2 := Lib.hid (show stepB R = true by rw [HE.out, decide_eq_false ht]; rfl)
        by_cases hd : R.to_ = R.dock
        · have HS2 := Lib.hid (show stepS R = doneS { R with cell := R.to_, to_ := -1, charge := R.full } by rw [HS.out, if_pos rfl, if_neg ht, if_pos hd])
          have hdb : (R.to_ == R.dock) = true := by rw [hd]; simp
          clear hm ht hgo hd
          go_enter Tryz.func65, Tryz.ntmps65
          go_wp2_with fail
          have b1 := (blk_set (blk_set H.out.blk 1 (.int .i64 R.to_)) 2 (.int .i64 (-1)))
          have B1 := Lib.hid b1
          have q0 : ((w.setCell ⟨p, 1, none⟩ (.int .i64 R.to_)).setCell ⟨p, 2, none⟩ (.int .i64 (-1))).cell? ⟨p, 0, none⟩ = some (.int .i64 R.dock) := (blk_cell b1 0).trans rfl
          have q1 : ((w.setCell ⟨p, 1, none⟩ (.int .i64 R.to_)).setCell ⟨p, 2, none⟩ (.int .i64 (-1))).cell? ⟨p, 1, none⟩ = some (.int .i64 R.to_) := (blk_cell b1 1).trans rfl
          have K1 := Lib.hid ((Kp.one (w := w) (p := p) 1 (.int .i64 R.to_)).trans (Kp.one (p := p) 2 (.int .i64 (-1))))
          obtain ⟨w2, hw2⟩ : ∃ w2, w2 = (w.setCell ⟨p, 1, none⟩ (.int .i64 R.to_)).setCell ⟨p, 2, none⟩ (.int .i64 (-1)) := ⟨_, rfl⟩
          rw [← hw2] at q0 q1 B1 K1 ⊢
          clear b1 hw2
          go_quiet (fail)
          have q3 : (w2.drewN nq).cell? ⟨p, 3, none⟩ = some (.int .i64 R.full) := (blk_cell B1.out 3).trans rfl
          have q4 : (w2.drewN nq).cell? ⟨p, 4, none⟩ = some (.int .i64 R.charge) := (blk_cell B1.out 4).trans rfl
          have g4 : (w2.drewN nq).frozen? ⟨p, 4, none⟩ = false := blk_free B1.out 4
          have B2 := Lib.hid (blk_set (w := w2.drewN nq) B1.out 4 (.int .i64 R.full))
          have K2 := Lib.hid ((K1.out.drewN nq).trans (Kp.one (p := p) 4 (.int .i64 R.full)))
          have d5 : ((w2.drewN nq).setCell ⟨p, 4, none⟩ (.int .i64 R.full)).cell? ⟨p, 5, none⟩ = some (.pointer (some ⟨a, 0, none⟩)) := (blk_cell B2.out 5).trans rfl
          have g5 : ((w2.drewN nq).setCell ⟨p, 4, none⟩ (.int .i64 R.full)).frozen? ⟨p, 5, none⟩ = false := blk_free B2.out 5
          have d6 : ((w2.drewN nq).setCell ⟨p, 4, none⟩ (.int .i64 R.full)).cell? ⟨p, 6, none⟩ = some (.int .u64 (R.done : Int)) := (blk_cell B2.out 6).trans rfl
          have g6 : ((w2.drewN nq).setCell ⟨p, 4, none⟩ (.int .i64 R.full)).frozen? ⟨p, 6, none⟩ = false := blk_free B2.out 6
          have d8 : ((w2.drewN nq).setCell ⟨p, 4, none⟩ (.int .i64 R.full)).cell? ⟨p, 8, none⟩ = some (.pointer (some ⟨ps, 0, none⟩)) := (blk_cell B2.out 8).trans rfl
          go_wp2_with fail
          have bD := (blk_set (blk_set B2.out 5 (.pointer none)) 6 (.int .u64 (nxt R.done : Int)))
          have kD := (K2.out.trans (Kp.one (p := p) 5 (.pointer none))).trans (Kp.one (p := p) 6 (.int .u64 (nxt R.done : Int)))
          have sD := H.out.s.far kD ((Ty.one H.out.blk).not H.out.s.blk (by decide)) ((Ty.one H.out.blk).notO H.out.s.own (by decide))
          refine (tell_any sD (Rd.nil BK _) (by simp) (by simp)).mono ?_
          rintro e w9 ⟨rfl, t9⟩
          have T9 : Hid (RobTo p ph ps (some a) V (doneS { R with cell := R.to_, to_ := -1, charge := R.full }) w w9) := Lib.hid (robTo_done H.out (bD.trans rfl) rfl rfl rfl kD ⟨rfl, t9⟩)
          clear bD kD sD t9
          go_wp2
          go_ret
          exact ⟨by rw [HE2.out]; rfl, by rw [HS2.out]; exact T9.out⟩
        · have HS2 := Lib.hid (show stepS R = doneS { R with cell := R.to_, to_ := -1, charge := R.charge } by rw [HS.out, if_pos rfl, if_neg ht, if_neg hd])
          have hdb : (R.to_ == R.dock) = false := by simpa using hd
          clear hm ht hgo hd
          go_enter Tryz.func65, Tryz.ntmps65
          go_wp2_with fail
          have b1 := (blk_set (blk_set H.out.blk 1 (.int .i64 R.to_)) 2 (.int .i64 (-1)))
          have B1 := Lib.hid b1
          have q0 : ((w.setCell ⟨p, 1, none⟩ (.int .i64 R.to_)).setCell ⟨p, 2, none⟩ (.int .i64 (-1))).cell? ⟨p, 0, none⟩ = some (.int .i64 R.dock) := (blk_cell b1 0).trans rfl
          have q1 : ((w.setCell ⟨p, 1, none⟩ (.int .i64 R.to_)).setCell ⟨p, 2, none⟩ (.int .i64 (-1))).cell? ⟨p, 1, none⟩ = some (.int .i64 R.to_) := (blk_cell b1 1).trans rfl
          have K1 := Lib.hid ((Kp.one (w := w) (p := p) 1 (.int .i64 R.to_)).trans (Kp.one (p := p) 2 (.int .i64 (-1))))
          obtain ⟨w2, hw2⟩ : ∃ w2, w2 = (w.setCell ⟨p, 1, none⟩ (.int .i64 R.to_)).setCell ⟨p, 2, none⟩ (.int .i64 (-1)) := ⟨_, rfl⟩
          rw [← hw2] at q0 q1 B1 K1 ⊢
          clear b1 hw2
          go_quiet (fail)
          have B2 := Lib.hid (show (w2.drewN nq).heap[p]? = _ from B1.out)
          have K2 := Lib.hid (K1.out.drewN nq)
          have d5 : (w2.drewN nq).cell? ⟨p, 5, none⟩ = some (.pointer (some ⟨a, 0, none⟩)) := (blk_cell B2.out 5).trans rfl
          have g5 : (w2.drewN nq).frozen? ⟨p, 5, none⟩ = false := blk_free B2.out 5
          have d6 : (w2.drewN nq).cell? ⟨p, 6, none⟩ = some (.int .u64 (R.done : Int)) := (blk_cell B2.out 6).trans rfl
          have g6 : (w2.drewN nq).frozen? ⟨p, 6, none⟩ = false := blk_free B2.out 6
          have d8 : (w2.drewN nq).cell? ⟨p, 8, none⟩ = some (.pointer (some ⟨ps, 0, none⟩)) := (blk_cell B2.out 8).trans rfl
          go_wp2_with fail
          have bD := (blk_set (blk_set B2.out 5 (.pointer none)) 6 (.int .u64 (nxt R.done : Int)))
          have kD := (K2.out.trans (Kp.one (p := p) 5 (.pointer none))).trans (Kp.one (p := p) 6 (.int .u64 (nxt R.done : Int)))
          have sD := H.out.s.far kD ((Ty.one H.out.blk).not H.out.s.blk (by decide)) ((Ty.one H.out.blk).notO H.out.s.own (by decide))
          refine (tell_any sD (Rd.nil BK _) (by simp) (by simp)).mono ?_
          rintro e w9 ⟨rfl, t9⟩
          have T9 : Hid (RobTo p ph ps (some a) V (doneS { R with cell := R.to_, to_ := -1, charge := R.charge }) w w9) := Lib.hid (robTo_done H.out (bD.trans rfl) rfl rfl rfl kD ⟨rfl, t9⟩)
          clear bD kD sD t9
          go_wp2
          go_ret
          exact ⟨by rw [HE2.out]; rfl, by rw [HS2.out]; exact T9.out⟩
    · have hkb : ((k : Int) == 1) = false := by simp; omega
      have HE2 := Lib.hid (show stepB R = true by rw [HE.out, decide_eq_false hk1]; rfl)
      have HS2 := Lib.hid (show stepS R = doneS R by rw [HS.out, if_neg hk1])
      have B2 := Lib.hid H.out.blk
      have K2 := Lib.hid (Kp.refl (fun k => k = p) w)
      clear hm hgo
      go_enter Tryz.func65, Tryz.ntmps65
      have d5 : w.cell? ⟨p, 5, none⟩ = some (.pointer (some ⟨a, 0, none⟩)) := (blk_cell B2.out 5).trans rfl
      have g5 : w.frozen? ⟨p, 5, none⟩ = false := blk_free B2.out 5
      have d6 : w.cell? ⟨p, 6, none⟩ = some (.int .u64 (R.done : Int)) := (blk_cell B2.out 6).trans rfl
      have g6 : w.frozen? ⟨p, 6, none⟩ = false := blk_free B2.out 6
      have d8 : w.cell? ⟨p, 8, none⟩ = some (.pointer (some ⟨ps, 0, none⟩)) := (blk_cell B2.out 8).trans rfl
      go_wp2_with fail
      have bD := (blk_set (blk_set B2.out 5 (.pointer none)) 6 (.int .u64 (nxt R.done : Int)))
      have kD := (K2.out.trans (Kp.one (p := p) 5 (.pointer none))).trans (Kp.one (p := p) 6 (.int .u64 (nxt R.done : Int)))
      have sD := H.out.s.far kD ((Ty.one H.out.blk).not H.out.s.blk (by decide)) ((Ty.one H.out.blk).notO H.out.s.own (by decide))
      refine (tell_any sD (Rd.nil BK _) (by simp) (by simp)).mono ?_
      rintro e w9 ⟨rfl, t9⟩
      have T9 : Hid (RobTo p ph ps (some a) V (doneS R) w w9) := Lib.hid (robTo_done H.out (bD.trans rfl) rfl rfl rfl kD ⟨rfl, t9⟩)
      clear bD kD sD t9
      go_wp2
      go_ret
      exact ⟨by rw [HE2.out]; rfl, by rw [HS2.out]; exact T9.out⟩
end Go.Proofs.YtfpikgkbccgchaaGreatDoor

namespace Go.Proofs.YtfpikgkbccgchaaGreatDoor
set_option linter.unusedVariables false
set_option linter.unusedSimpArgs false
open Go.RowKit

theorem fits8_any (n : Int) (w : World) (b : Bool) (hb : b = (decide (0 ≤ n) && decide (n < 256))) : Calls Tryz.prog 151 #[.int .i64 n, .int .i64 8] w fun e w' => e = .returned (.bool b) ∧ w = w' := by
  by_cases h : 0 ≤ n
  · by_cases h2 : n < 256
    · obtain rfl : b = true := by rw [hb]; simp [h, h2]
      clear hb
      go_enter Tryz.func151, Tryz.ntmps151
      go_wp2
      go_ret
      exact ⟨rfl, rfl⟩
    · obtain rfl : b = false := by rw [hb]; simp [h2]
      clear hb
      go_enter Tryz.func151, Tryz.ntmps151
      go_wp2
      go_ret
      exact ⟨rfl, rfl⟩
  · obtain rfl : b = false := by rw [hb]; simp [h]
    clear hb
    go_enter Tryz.func151, Tryz.ntmps151
    go_wp2
    go_ret
    exact ⟨rfl, rfl⟩
theorem fits6_any (n : Int) (w : World) (b : Bool) (hb : b = (decide (0 ≤ n) && decide (n < 64))) : Calls Tryz.prog 151 #[.int .i64 n, .int .i64 6] w fun e w' => e = .returned (.bool b) ∧ w = w' := by
  by_cases h : 0 ≤ n
  · by_cases h2 : n < 64
    · obtain rfl : b = true := by rw [hb]; simp [h, h2]
      clear hb
      go_enter Tryz.func151, Tryz.ntmps151
      go_wp2
      go_ret
      exact ⟨rfl, rfl⟩
    · obtain rfl : b = false := by rw [hb]; simp [h2]
      clear hb
      go_enter Tryz.func151, Tryz.ntmps151
      go_wp2
      go_ret
      exact ⟨rfl, rfl⟩
  · obtain rfl : b = false := by rw [hb]; simp [h]
    clear hb
    go_enter Tryz.func151, Tryz.ntmps151
    go_wp2
    go_ret
    exact ⟨rfl, rfl⟩

set_option maxRecDepth 100000 in
theorem mayA_any (k : Nat) (c p : Int) (hk : k < 256) (w : World) (b : Bool) (hb : b = mayA k c p) : Calls Tryz.prog 135 #[.agg #[.int .u8 (k : Int), .int .i64 c, .int .i64 p]] w fun e w' => e = .returned (.bool b) ∧ Kp No w w' := by
  obtain ⟨b1, hb1⟩ : ∃ b1, b1 = (decide (0 ≤ c) && decide (c < 256)) := ⟨_, rfl⟩
  obtain ⟨b2, hb2⟩ : ∃ b2, b2 = (decide (0 ≤ p) && decide (p < 64)) := ⟨_, rfl⟩
  have hb' : b = (decide (1 ≤ k) && decide (k ≤ 3) && b1 && b2 && (decide (k ≠ 1) || decide (p = 0))) := by rw [hb, hb1, hb2]; unfold mayA; simp only [Bool.and_assoc]
  have HB1 := Lib.hid hb1; have HB2 := Lib.hid hb2
  clear hb hb1 hb2
  by_cases h1 : 1 ≤ k
  · have h1I : (1 : Int) ≤ (k : Int) := by omega
    by_cases h2 : k ≤ 3
    · have h2I : (k : Int) ≤ 3 := by omega
      have hb2 : b = (b1 && b2 && (decide (k ≠ 1) || decide (p = 0))) := by rw [hb']; simp [h1, h2]
      clear hb' h1 h2
      cases b1 with
      | false =>
        obtain rfl : b = false := by rw [hb2]; simp
        clear hb2
        go_enter Tryz.func135, Tryz.ntmps135
        go_wp2_with (first | (go_at_call_of 151 (Value.int IntKind.i64 c); refine (fits8_any c _ false HB1.out).mono ?_; rintro e w' ⟨rfl, rfl⟩))
        go_ret
        exact ⟨rfl, (Kp.refl _ _).alloc _⟩
      | true =>
        cases b2 with
        | false =>
          obtain rfl : b = false := by rw [hb2]; simp
          clear hb2
          go_enter Tryz.func135, Tryz.ntmps135
          go_wp2_with fail
          refine (fits8_any c _ true HB1.out).mono ?_
          rintro e w' ⟨rfl, rfl⟩
          go_wp2_with fail
          refine (fits6_any p _ false HB2.out).mono ?_
          rintro e w' ⟨rfl, rfl⟩
          go_wp2
          go_ret
          exact ⟨rfl, (Kp.refl _ _).alloc _⟩
        | true =>
          by_cases h3 : k = 1
          · subst h3
            by_cases h4 : p = 0
            · obtain rfl : b = true := by rw [hb2]; simp [h4]
              clear hb2
              subst h4
              go_enter Tryz.func135, Tryz.ntmps135
              go_wp2_with fail
              refine (fits8_any c _ true HB1.out).mono ?_
              rintro e w' ⟨rfl, rfl⟩
              go_wp2_with fail
              refine (fits6_any 0 _ true HB2.out).mono ?_
              rintro e w' ⟨rfl, rfl⟩
              go_wp2
              go_ret
              exact ⟨rfl, (Kp.refl _ _).alloc _⟩
            · obtain rfl : b = false := by rw [hb2]; simp [h4]
              have h4b : (p == 0) = false := by simpa using h4
              clear hb2
              go_enter Tryz.func135, Tryz.ntmps135
              go_wp2_with fail
              refine (fits8_any c _ true HB1.out).mono ?_
              rintro e w' ⟨rfl, rfl⟩
              go_wp2_with fail
              refine (fits6_any p _ true HB2.out).mono ?_
              rintro e w' ⟨rfl, rfl⟩
              go_wp2
              go_ret
              exact ⟨rfl, (Kp.refl _ _).alloc _⟩
          · obtain rfl : b = true := by rw [hb2]; simp [h3]
            have h3b : ((k : Int) != 1) = true := by simp; omega
            clear hb2 h3
            go_enter Tryz.func135, Tryz.ntmps135
            go_wp2_with fail
            refine (fits8_any c _ true HB1.out).mono ?_
            rintro e w' ⟨rfl, rfl⟩
            go_wp2_with fail
            refine (fits6_any p _ true HB2.out).mono ?_
            rintro e w' ⟨rfl, rfl⟩
            go_wp2
            go_ret
            exact ⟨rfl, (Kp.refl _ _).alloc _⟩
    · have h2I : ¬ (k : Int) ≤ 3 := by omega
      obtain rfl : b = false := by rw [hb']; simp [h2]
      clear hb' h2
      go_enter Tryz.func135, Tryz.ntmps135
      go_wp2
      go_ret
      exact ⟨rfl, (Kp.refl _ _).alloc _⟩
  · have h1I : ¬ (1 : Int) ≤ (k : Int) := by omega
    obtain rfl : b = false := by rw [hb']; simp [h1]
    clear hb' h1
    go_enter Tryz.func135, Tryz.ntmps135
    go_wp2
    go_ret
    exact ⟨rfl, (Kp.refl _ _).alloc _⟩
end Go.Proofs.YtfpikgkbccgchaaGreatDoor

namespace Go.Proofs.YtfpikgkbccgchaaGreatDoor
set_option linter.unusedVariables false
set_option linter.unusedSimpArgs false
open Go.RowKit

theorem rgetV_lt (L : List Bool) (n : Nat) (f : Int) (m : Nat) : rgetV L n f m < 2 ^ m := by
  unfold rgetV
  split
  · exact Nat.lt_of_lt_of_le (bval_lt _) (Nat.pow_le_pow_right (by decide) (List.length_take_le _ _))
  · exact Nat.two_pow_pos m
theorem rgetN_le (L : List Bool) (n : Nat) (f : Int) (m : Nat) (h : n ≤ L.length) : rgetN L n f m ≤ L.length := by
  unfold rgetN
  split
  · rename_i h; exact h.2
  · exact h
/-- What is read of the bytes: kind, cell, pod, the place, the fault. -/
structure TaV (L : List Bool) (n1 : Nat) (f1 : Int) (n2 : Nat) (f2 : Int) (n3 : Nat) (f3 : Int) (k c p : Nat) : Prop where
  en1 : n1 = rgetN L 0 0 2
  ef1 : f1 = rgetF L 0 0 2
  ek : k = rgetV L 0 0 2
  en2 : n2 = rgetN L n1 f1 8
  ef2 : f2 = rgetF L n1 f1 8
  ec : c = rgetV L n1 f1 8
  en3 : n3 = rgetN L n2 f2 6
  ef3 : f3 = rgetF L n2 f2 6
  ep : p = rgetV L n2 f2 6
section
variable {B : List Nat} {n1 n2 n3 : Nat} {f1 f2 f3 : Int} {k c p : Nat}
theorem TaV.two (h : TaV (unpackB B) n1 f1 n2 f2 n3 f3 k c p) (hB : B.length = 2) : k = aK B ∧ c = aC B ∧ p = aP B ∧ n3 = 16 ∧ rendV (unpackB B) n3 f3 = 0 := by
  obtain ⟨h1, h2, h3, h4, h5, h6, h7, h8, h9⟩ := h
  have hl : (unpackB B).length = 16 := by rw [unpackB_len, hB]
  obtain ⟨a1, a2, a3⟩ := @rget_full (unpackB B) 0 2 (by omega)
  rw [a2] at h1; rw [a3] at h2; rw [a1] at h3
  subst h1 h2
  obtain ⟨a4, a5, a6⟩ := @rget_full (unpackB B) 2 8 (by omega)
  rw [show (0 : Nat) + 2 = 2 from rfl] at h4 h5 h6
  rw [a5] at h4; rw [a6] at h5; rw [a4] at h6
  subst h4 h5
  obtain ⟨a7, a8, a9⟩ := @rget_full (unpackB B) 10 6 (by omega)
  rw [show (2 : Nat) + 8 = 10 from rfl] at h7 h8 h9
  rw [a8] at h7; rw [a9] at h8; rw [a7] at h9
  subst h7 h8
  refine ⟨by rw [h3]; rfl, h6, h9, rfl, ?_⟩
  unfold rendV
  rw [if_pos rfl, if_neg (by omega), if_neg]
  rw [List.drop_eq_nil_of_le (by omega)]; simp
theorem TaV.not (h : TaV (unpackB B) n1 f1 n2 f2 n3 f3 k c p) (hB : B.length ≠ 2) : rendV (unpackB B) n3 f3 ≠ 0 := by
  obtain ⟨h1, h2, h3, h4, h5, h6, h7, h8, h9⟩ := h
  have hl : (unpackB B).length = 8 * B.length := unpackB_len B
  by_cases z : 3 ≤ B.length
  · obtain ⟨a1, a2, a3⟩ := @rget_full (unpackB B) 0 2 (by omega)
    rw [a2] at h1; rw [a3] at h2
    subst h1 h2
    obtain ⟨a4, a5, a6⟩ := @rget_full (unpackB B) 2 8 (by omega)
    rw [show (0 : Nat) + 2 = 2 from rfl] at h4 h5
    rw [a5] at h4; rw [a6] at h5
    subst h4 h5
    obtain ⟨a7, a8, a9⟩ := @rget_full (unpackB B) 10 6 (by omega)
    rw [show (2 : Nat) + 8 = 10 from rfl] at h7 h8
    rw [a8] at h7; rw [a9] at h8
    subst h7 h8
    unfold rendV
    rw [if_pos rfl, if_pos (by omega)]; decide
  · -- the bytes end too early: a fault
    have key : ∀ n (f : Int) m, f = 10 → rgetF (unpackB B) n f m = 10 := fun n f m hf => by unfold rgetF; rw [if_neg (by rw [hf]; decide), hf]
    have hf3 : f3 = 10 := by
      by_cases z0 : B.length = 0
      · have e1 : f1 = 10 := by rw [h2]; unfold rgetF; rw [if_pos rfl, if_neg (by omega)]
        rw [h8]; exact key _ _ _ (by rw [h5]; exact key _ _ _ e1)
      · obtain ⟨a1, a2, a3⟩ := @rget_full (unpackB B) 0 2 (by omega)
        rw [a2] at h1; rw [a3] at h2
        subst h1 h2
        have e2 : f2 = 10 := by rw [h5]; unfold rgetF; rw [if_pos rfl, if_neg (by omega)]
        rw [h8]; exact key _ _ _ e2
    unfold rendV
    rw [if_neg (by rw [hf3]; decide), hf3]; decide
end

/-- Behind TakeAct. -/
def TakeAR (B : List Nat) (w : World) (e : Ending) (w' : World) : Prop := e = .returned (.tuple #[.agg #[.int .u8 (tkaK B : Int), .int .i64 (tkaC B : Int), .int .i64 (tkaP B : Int)], .int .i64 (tkaE B)]) ∧ Kp No w w'

set_option maxHeartbeats 1000000 in
set_option maxRecDepth 100000 in
theorem takeA_any {w : World} {v : Value} {B : List Nat} (h : Rd BK w v B) (hB : B.length ≤ 1000000) (hx : ∀ x ∈ B, x < 256) : Calls Tryz.prog 108 #[v] w (TakeAR B w) := by
  obtain ⟨A, cap, rfl⟩ := h.shape
  obtain ⟨n1, hn1⟩ : ∃ n1, n1 = rgetN (unpackB B) 0 0 2 := ⟨_, rfl⟩
  obtain ⟨f1, hf1⟩ : ∃ f1, f1 = rgetF (unpackB B) 0 0 2 := ⟨_, rfl⟩
  obtain ⟨k, hk⟩ : ∃ k, k = rgetV (unpackB B) 0 0 2 := ⟨_, rfl⟩
  obtain ⟨n2, hn2⟩ : ∃ n2, n2 = rgetN (unpackB B) n1 f1 8 := ⟨_, rfl⟩
  obtain ⟨f2, hf2⟩ : ∃ f2, f2 = rgetF (unpackB B) n1 f1 8 := ⟨_, rfl⟩
  obtain ⟨c, hc⟩ : ∃ c, c = rgetV (unpackB B) n1 f1 8 := ⟨_, rfl⟩
  obtain ⟨n3, hn3⟩ : ∃ n3, n3 = rgetN (unpackB B) n2 f2 6 := ⟨_, rfl⟩
  obtain ⟨f3, hf3⟩ : ∃ f3, f3 = rgetF (unpackB B) n2 f2 6 := ⟨_, rfl⟩
  obtain ⟨p, hp⟩ : ∃ p, p = rgetV (unpackB B) n2 f2 6 := ⟨_, rfl⟩
  have T : TaV (unpackB B) n1 f1 n2 f2 n3 f3 k c p := ⟨hn1, hf1, hk, hn2, hf2, hc, hn3, hf3, hp⟩
  have hkl : k < 4 := by rw [hk]; exact rgetV_lt _ _ _ _
  have hcl : c < 256 := by rw [hc]; exact rgetV_lt _ _ _ _
  have hpl : p < 64 := by rw [hp]; exact rgetV_lt _ _ _ _
  have hl : (unpackB B).length = 8 * B.length := unpackB_len B
  have hb1 : n1 ≤ 8 * B.length := by rw [hn1, ← hl]; exact rgetN_le _ _ _ _ (by omega)
  have hb2 : n2 ≤ 8 * B.length := by rw [hn2, ← hl]; exact rgetN_le _ _ _ _ (by omega)
  have hb3 : n3 ≤ 8 * B.length := by rw [hn3, ← hl]; exact rgetN_le _ _ _ _ (by omega)
  have HT := Lib.hid T
  have HN1 := Lib.hid hn1; have HF1 := Lib.hid hf1; have HK := Lib.hid hk; have HN2 := Lib.hid hn2; have HF2 := Lib.hid hf2; have HC := Lib.hid hc; have HN3 := Lib.hid hn3; have HF3 := Lib.hid hf3; have HP := Lib.hid hp
  have H := Lib.hid h; have HX := Lib.hid hx
  have i1 : (k : Int) < 256 := by omega
  have i2 : (c : Int) < 256 := by omega
  have i3 : (p : Int) < 64 := by omega
  clear T h hx hl hn1 hf1 hk hn2 hf2 hc hn3 hf3 hp
  -- what comes of it
  obtain ⟨E, hE⟩ : ∃ E, E = rendV (unpackB B) n3 f3 := ⟨_, rfl⟩
  obtain ⟨m, hm⟩ : ∃ m, m = mayA k (c : Int) (p : Int) := ⟨_, rfl⟩
  have hcase : ((E != 0) = true ∧ tkaOk B = false) ∨ ((E != 0) = false ∧ 8 * B.length = n3 ∧ m = tkaOk B ∧ k = aK B ∧ c = aC B ∧ p = aP B) := by
    by_cases hB2 : B.length = 2
    · obtain ⟨t1, t2, t3, t4, t5⟩ := HT.out.two hB2
      refine .inr ⟨by rw [hE, t5]; rfl, by omega, ?_, t1, t2, t3⟩
      rw [hm]; unfold tkaOk; rw [← t1, ← t2, ← t3, hB2]; rfl
    · refine .inl ⟨by rw [hE]; simpa using HT.out.not hB2, ?_⟩
      unfold tkaOk; simp [hB2]
  have HE := Lib.hid hE; have HM := Lib.hid hm
  clear hE hm HT
  rcases hcase with ⟨hE1, hok⟩ | ⟨hE1, h8, hmk, t1, t2, t3⟩
  · have ERR : Hid (∀ w', Kp No w w' → TakeAR B w (.returned (.tuple #[.agg #[.int .u8 0, .int .i64 0, .int .i64 0], .int .i64 170])) w') := Lib.hid fun w' hk => by
      unfold TakeAR tkaK tkaC tkaP tkaE
      rw [hok]; exact ⟨rfl, hk⟩
    clear hok
    go_enter Tryz.func108, Tryz.ntmps108
    go_wp2_with fail
    refine (newR_any (H.out.kpNo ((Kp.refl No w).alloc _)) hB).mono ?_
    rintro e w1 ⟨q, V, rfl, a1, k1, g1, l1, vo⟩
    obtain ⟨br, hbr⟩ : ∃ br, br = w.heap.size := ⟨_, rfl⟩
    have R1 := Lib.hid (show w1.heap[br]? = some (.cells #[.int .u8 0, .int .i64 0, .int .i64 0] 40 (0, 0)) by rw [hbr]; exact k1.blk (blk_new w _) (no_no _))
    have A1 := Lib.hid a1; have K1 := Lib.hid (show Kp No w w1 from ((Kp.refl No w).alloc _).trans k1)
    have G1 := Lib.hid (show br < q by rw [hbr]; simp at g1; omega)
    have VO := Lib.hid (show ∀ g, V.ownBlock = some g → br < g ∧ g < w1.heap.size from fun g hg => ⟨by have := (vo g hg).1; rw [hbr]; simp at this; omega, (vo g hg).2⟩)
    have HBR := Lib.hid hbr
    rw [← hbr]
    clear a1 k1 g1 vo hbr
    go_wp2_with fail
    refine (get_any A1.out hB HX.out (Nat.zero_le _) 2 (by decide) _ rfl).mono ?_
    rintro e w2 ⟨rfl, a2⟩
    rw [← HN1.out, ← HF1.out] at a2
    rw [← HK.out]
    have A2 := Lib.hid a2.here
    have R2 := Lib.hid (a2.kp.blk R1.out (fun e => by have e : br = q := e; have := G1.out; omega))
    have K2 := Lib.hid (K1.out.newer a2.kp (by have := G1.out; have := HBR.out; omega))
    have Z2 := Lib.hid (Nat.lt_of_lt_of_le l1 a2.kp.size)
    have ZV := Lib.hid (show ∀ g, V.ownBlock = some g → br < g ∧ g < w2.heap.size from fun g hg => ⟨(VO.out g hg).1, Nat.lt_of_lt_of_le (VO.out g hg).2 a2.kp.size⟩)
    obtain ⟨bx, hbx⟩ : ∃ bx, bx = w2.heap.size := ⟨_, rfl⟩
    have HBX := Lib.hid hbx
    have hbrx : br < bx := by have := G1.out; have := Z2.out; omega
    clear a2 l1
    go_wp2_with fail
    refine (get_any (A2.out.kpNo ((Kp.refl No w2).alloc (.cells #[.int .u8 (k : Int), .int .i64 0, .int .i64 0] 40))).here hB HX.out hb1 8 (by decide) _ rfl).mono ?_
    rintro e w3 ⟨rfl, a3⟩
    rw [← HN2.out, ← HF2.out] at a3
    rw [← HC.out, ← hbx]
    have X3 := Lib.hid (show w3.heap[bx]? = some (.cells #[.int .u8 (k : Int), .int .i64 0, .int .i64 0] 40 (0, 0)) by rw [hbx]; exact a3.kp.blk (blk_new w2 _) (fun e => by have e : w2.heap.size = q := e; have := Z2.out; omega))
    have R3 := Lib.hid (a3.kp.blk (blk_alloc R2.out _) (fun e => by have e : br = q := e; have := G1.out; omega))
    have A3 := Lib.hid a3.here
    have K3 := Lib.hid ((K2.out.alloc _).newer a3.kp (by have := G1.out; have := HBR.out; omega))
    have y1 : w3.cell? ⟨bx, 1, none⟩ = some (.int .i64 0) := (blk_cell X3.out 1).trans rfl
    have y1f : w3.frozen? ⟨bx, 1, none⟩ = false := blk_free X3.out 1
    have NQ := Lib.hid (show ¬ (q = bx) by have := Z2.out; omega)
    have NV := Lib.hid (show ∀ g, V.ownBlock = some g → ¬ (g = bx) from fun g hg e => by have := (ZV.out g hg).2; omega)
    clear a3 hbx
    go_wp2_with fail
    refine (get_any (A3.out.far (Kp.one (p := bx) 1 (.int .i64 (c : Int))) NQ.out NV.out) hB HX.out hb2 6 (by decide) _ rfl).mono ?_
    rintro e w4 ⟨rfl, a4⟩
    rw [← HN3.out, ← HF3.out] at a4
    rw [← HP.out]
    have X4 := Lib.hid (show w4.heap[bx]? = some (.cells #[.int .u8 (k : Int), .int .i64 (c : Int), .int .i64 0] 40 (0, 0)) from a4.kp.blk ((blk_set X3.out 1 _).trans rfl) (fun e => NQ.out e.symm))
    have R4 := Lib.hid (a4.kp.blk (blk_far R3.out (p := ⟨bx, 1, none⟩) (by show br ≠ bx; omega) (.int .i64 (c : Int))) (fun e => by have e : br = q := e; have := G1.out; omega))
    have A4 := Lib.hid a4.here
    have K4 := Lib.hid ((K3.out.newer (Kp.one (p := bx) 1 (.int .i64 (c : Int))) (by have := HBR.out; omega)).newer a4.kp (by have := G1.out; have := HBR.out; omega))
    have y2 : w4.cell? ⟨bx, 2, none⟩ = some (.int .i64 0) := (blk_cell X4.out 2).trans rfl
    have y2f : w4.frozen? ⟨bx, 2, none⟩ = false := blk_free X4.out 2
    clear a4
    go_wp2_with fail
    refine (end_any (A4.out.far (Kp.one (p := bx) 2 (.int .i64 (p : Int))) NQ.out NV.out) hB HX.out hb3).mono ?_
    rintro e w5 ⟨rfl, k5⟩
    rw [← HE.out]
    have X5 := Lib.hid (show w5.heap[bx]? = some (.cells #[.int .u8 (k : Int), .int .i64 (c : Int), .int .i64 (p : Int)] 40 (0, 0)) from k5.blk ((blk_set X4.out 2 _).trans rfl) (no_no _))
    have R5 := Lib.hid (k5.blk (blk_far R4.out (p := ⟨bx, 2, none⟩) (by show br ≠ bx; omega) (.int .i64 (p : Int))) (no_no _))
    have K5 := Lib.hid ((K4.out.newer (Kp.one (p := bx) 2 (.int .i64 (p : Int))) (by have := HBR.out; omega)).trans k5)
    clear k5
    have u0 : w5.cell? ⟨br, 0, none⟩ = some (.int .u8 0) := (blk_cell R5.out 0).trans rfl
    have u1 : w5.cell? ⟨br, 1, none⟩ = some (.int .i64 0) := (blk_cell R5.out 1).trans rfl
    have u2 : w5.cell? ⟨br, 2, none⟩ = some (.int .i64 0) := (blk_cell R5.out 2).trans rfl
    have v0 : w5.frozen? ⟨br, 0, none⟩ = false := blk_free R5.out 0
    have v1 : w5.frozen? ⟨br, 1, none⟩ = false := blk_free R5.out 1
    have v2 : w5.frozen? ⟨br, 2, none⟩ = false := blk_free R5.out 2
    go_wp2
    have bE := blk_set (blk_set (blk_set R5.out 0 (.int .u8 0)) 1 (.int .i64 0)) 2 (.int .i64 0)
    have r0 := (blk_cell bE 0).trans rfl
    have r1 := (blk_cell bE 1).trans rfl
    have r2 := (blk_cell bE 2).trans rfl
    have kE := ((K5.out.newer (Kp.one (w := w5) (p := br) 0 (.int .u8 0)) (by have := HBR.out; omega)).newer (Kp.one (p := br) 1 (.int .i64 0)) (by have := HBR.out; omega)).newer (Kp.one (p := br) 2 (.int .i64 0)) (by have := HBR.out; omega)
    exact bodyPost_ret (v := .tuple #[.agg #[.int .u8 0, .int .i64 0, .int .i64 0], .int .i64 170]) (by simp [results, Tryz.results108, go_sem, r0, r1, r2]) rfl (ERR.out _ kE)
  · cases m with
    | false =>
      have hok := hmk.symm
      have ERR : Hid (∀ w', Kp No w w' → TakeAR B w (.returned (.tuple #[.agg #[.int .u8 0, .int .i64 0, .int .i64 0], .int .i64 170])) w') := Lib.hid fun w' hk => by
        unfold TakeAR tkaK tkaC tkaP tkaE
        rw [hok]; exact ⟨rfl, hk⟩
      clear hok
      clear hmk t1 t2 t3
      go_enter Tryz.func108, Tryz.ntmps108
      go_wp2_with fail
      refine (newR_any (H.out.kpNo ((Kp.refl No w).alloc _)) hB).mono ?_
      rintro e w1 ⟨q, V, rfl, a1, k1, g1, l1, vo⟩
      obtain ⟨br, hbr⟩ : ∃ br, br = w.heap.size := ⟨_, rfl⟩
      have R1 := Lib.hid (show w1.heap[br]? = some (.cells #[.int .u8 0, .int .i64 0, .int .i64 0] 40 (0, 0)) by rw [hbr]; exact k1.blk (blk_new w _) (no_no _))
      have A1 := Lib.hid a1; have K1 := Lib.hid (show Kp No w w1 from ((Kp.refl No w).alloc _).trans k1)
      have G1 := Lib.hid (show br < q by rw [hbr]; simp at g1; omega)
      have VO := Lib.hid (show ∀ g, V.ownBlock = some g → br < g ∧ g < w1.heap.size from fun g hg => ⟨by have := (vo g hg).1; rw [hbr]; simp at this; omega, (vo g hg).2⟩)
      have HBR := Lib.hid hbr
      rw [← hbr]
      clear a1 k1 g1 vo hbr
      go_wp2_with fail
      refine (get_any A1.out hB HX.out (Nat.zero_le _) 2 (by decide) _ rfl).mono ?_
      rintro e w2 ⟨rfl, a2⟩
      rw [← HN1.out, ← HF1.out] at a2
      rw [← HK.out]
      have A2 := Lib.hid a2.here
      have R2 := Lib.hid (a2.kp.blk R1.out (fun e => by have e : br = q := e; have := G1.out; omega))
      have K2 := Lib.hid (K1.out.newer a2.kp (by have := G1.out; have := HBR.out; omega))
      have Z2 := Lib.hid (Nat.lt_of_lt_of_le l1 a2.kp.size)
      have ZV := Lib.hid (show ∀ g, V.ownBlock = some g → br < g ∧ g < w2.heap.size from fun g hg => ⟨(VO.out g hg).1, Nat.lt_of_lt_of_le (VO.out g hg).2 a2.kp.size⟩)
      obtain ⟨bx, hbx⟩ : ∃ bx, bx = w2.heap.size := ⟨_, rfl⟩
      have HBX := Lib.hid hbx
      have hbrx : br < bx := by have := G1.out; have := Z2.out; omega
      clear a2 l1
      go_wp2_with fail
      refine (get_any (A2.out.kpNo ((Kp.refl No w2).alloc (.cells #[.int .u8 (k : Int), .int .i64 0, .int .i64 0] 40))).here hB HX.out hb1 8 (by decide) _ rfl).mono ?_
      rintro e w3 ⟨rfl, a3⟩
      rw [← HN2.out, ← HF2.out] at a3
      rw [← HC.out, ← hbx]
      have X3 := Lib.hid (show w3.heap[bx]? = some (.cells #[.int .u8 (k : Int), .int .i64 0, .int .i64 0] 40 (0, 0)) by rw [hbx]; exact a3.kp.blk (blk_new w2 _) (fun e => by have e : w2.heap.size = q := e; have := Z2.out; omega))
      have R3 := Lib.hid (a3.kp.blk (blk_alloc R2.out _) (fun e => by have e : br = q := e; have := G1.out; omega))
      have A3 := Lib.hid a3.here
      have K3 := Lib.hid ((K2.out.alloc _).newer a3.kp (by have := G1.out; have := HBR.out; omega))
      have y1 : w3.cell? ⟨bx, 1, none⟩ = some (.int .i64 0) := (blk_cell X3.out 1).trans rfl
      have y1f : w3.frozen? ⟨bx, 1, none⟩ = false := blk_free X3.out 1
      have NQ := Lib.hid (show ¬ (q = bx) by have := Z2.out; omega)
      have NV := Lib.hid (show ∀ g, V.ownBlock = some g → ¬ (g = bx) from fun g hg e => by have := (ZV.out g hg).2; omega)
      clear a3 hbx
      go_wp2_with fail
      refine (get_any (A3.out.far (Kp.one (p := bx) 1 (.int .i64 (c : Int))) NQ.out NV.out) hB HX.out hb2 6 (by decide) _ rfl).mono ?_
      rintro e w4 ⟨rfl, a4⟩
      rw [← HN3.out, ← HF3.out] at a4
      rw [← HP.out]
      have X4 := Lib.hid (show w4.heap[bx]? = some (.cells #[.int .u8 (k : Int), .int .i64 (c : Int), .int .i64 0] 40 (0, 0)) from a4.kp.blk ((blk_set X3.out 1 _).trans rfl) (fun e => NQ.out e.symm))
      have R4 := Lib.hid (a4.kp.blk (blk_far R3.out (p := ⟨bx, 1, none⟩) (by show br ≠ bx; omega) (.int .i64 (c : Int))) (fun e => by have e : br = q := e; have := G1.out; omega))
      have A4 := Lib.hid a4.here
      have K4 := Lib.hid ((K3.out.newer (Kp.one (p := bx) 1 (.int .i64 (c : Int))) (by have := HBR.out; omega)).newer a4.kp (by have := G1.out; have := HBR.out; omega))
      have y2 : w4.cell? ⟨bx, 2, none⟩ = some (.int .i64 0) := (blk_cell X4.out 2).trans rfl
      have y2f : w4.frozen? ⟨bx, 2, none⟩ = false := blk_free X4.out 2
      clear a4
      go_wp2_with fail
      refine (end_any (A4.out.far (Kp.one (p := bx) 2 (.int .i64 (p : Int))) NQ.out NV.out) hB HX.out hb3).mono ?_
      rintro e w5 ⟨rfl, k5⟩
      rw [← HE.out]
      have X5 := Lib.hid (show w5.heap[bx]? = some (.cells #[.int .u8 (k : Int), .int .i64 (c : Int), .int .i64 (p : Int)] 40 (0, 0)) from k5.blk ((blk_set X4.out 2 _).trans rfl) (no_no _))
      have R5 := Lib.hid (k5.blk (blk_far R4.out (p := ⟨bx, 2, none⟩) (by show br ≠ bx; omega) (.int .i64 (p : Int))) (no_no _))
      have K5 := Lib.hid ((K4.out.newer (Kp.one (p := bx) 2 (.int .i64 (p : Int))) (by have := HBR.out; omega)).trans k5)
      go_wp2_with fail
      refine (left_any (((A4.out.far (Kp.one (p := bx) 2 (.int .i64 (p : Int))) NQ.out NV.out)).kpNo k5) hB hb3).mono ?_
      rintro e w6 ⟨rfl, k6⟩
      have X6 := Lib.hid (k6.blk X5.out (no_no _))
      have R6 := Lib.hid (k6.blk R5.out (no_no _))
      have K6 := Lib.hid (K5.out.trans k6)
      have x0 : w6.cell? ⟨bx, 0, none⟩ = some (.int .u8 (k : Int)) := (blk_cell X6.out 0).trans rfl
      have x1 : w6.cell? ⟨bx, 1, none⟩ = some (.int .i64 (c : Int)) := (blk_cell X6.out 1).trans rfl
      have x2 : w6.cell? ⟨bx, 2, none⟩ = some (.int .i64 (p : Int)) := (blk_cell X6.out 2).trans rfl
      have e0 : 8 * (B.length : Int) - (n3 : Int) = 0 := by omega
      rw [e0]
      clear k5 k6 e0
      go_wp2_with fail
      refine (mayA_any k (c : Int) (p : Int) (by omega) w6 _ HM.out).mono ?_
      rintro e w7 ⟨rfl, k7⟩
      have X7 := Lib.hid (k7.blk X6.out (no_no _))
      have R7 := Lib.hid (k7.blk R6.out (no_no _))
      have K7 := Lib.hid (K6.out.trans k7)
      clear k7
      have u0 : w7.cell? ⟨br, 0, none⟩ = some (.int .u8 0) := (blk_cell R7.out 0).trans rfl
      have u1 : w7.cell? ⟨br, 1, none⟩ = some (.int .i64 0) := (blk_cell R7.out 1).trans rfl
      have u2 : w7.cell? ⟨br, 2, none⟩ = some (.int .i64 0) := (blk_cell R7.out 2).trans rfl
      have v0 : w7.frozen? ⟨br, 0, none⟩ = false := blk_free R7.out 0
      have v1 : w7.frozen? ⟨br, 1, none⟩ = false := blk_free R7.out 1
      have v2 : w7.frozen? ⟨br, 2, none⟩ = false := blk_free R7.out 2
      go_wp2
      have bE := blk_set (blk_set (blk_set R7.out 0 (.int .u8 0)) 1 (.int .i64 0)) 2 (.int .i64 0)
      have r0 := (blk_cell bE 0).trans rfl
      have r1 := (blk_cell bE 1).trans rfl
      have r2 := (blk_cell bE 2).trans rfl
      have kE := ((K7.out.newer (Kp.one (w := w7) (p := br) 0 (.int .u8 0)) (by have := HBR.out; omega)).newer (Kp.one (p := br) 1 (.int .i64 0)) (by have := HBR.out; omega)).newer (Kp.one (p := br) 2 (.int .i64 0)) (by have := HBR.out; omega)
      exact bodyPost_ret (v := .tuple #[.agg #[.int .u8 0, .int .i64 0, .int .i64 0], .int .i64 170]) (by simp [results, Tryz.results108, go_sem, r0, r1, r2]) rfl (ERR.out _ kE)
    | true =>
      have YES : Hid (∀ w', Kp No w w' → TakeAR B w (.returned (.tuple #[.agg #[.int .u8 (k : Int), .int .i64 (c : Int), .int .i64 (p : Int)], .int .i64 0])) w') := Lib.hid fun w' hk => by
        unfold TakeAR tkaK tkaC tkaP tkaE
        rw [← hmk, ← t1, ← t2, ← t3]; exact ⟨rfl, hk⟩
      clear hmk t1 t2 t3
      go_enter Tryz.func108, Tryz.ntmps108
      go_wp2_with fail
      refine (newR_any (H.out.kpNo ((Kp.refl No w).alloc _)) hB).mono ?_
      rintro e w1 ⟨q, V, rfl, a1, k1, g1, l1, vo⟩
      obtain ⟨br, hbr⟩ : ∃ br, br = w.heap.size := ⟨_, rfl⟩
      have R1 := Lib.hid (show w1.heap[br]? = some (.cells #[.int .u8 0, .int .i64 0, .int .i64 0] 40 (0, 0)) by rw [hbr]; exact k1.blk (blk_new w _) (no_no _))
      have A1 := Lib.hid a1; have K1 := Lib.hid (show Kp No w w1 from ((Kp.refl No w).alloc _).trans k1)
      have G1 := Lib.hid (show br < q by rw [hbr]; simp at g1; omega)
      have VO := Lib.hid (show ∀ g, V.ownBlock = some g → br < g ∧ g < w1.heap.size from fun g hg => ⟨by have := (vo g hg).1; rw [hbr]; simp at this; omega, (vo g hg).2⟩)
      have HBR := Lib.hid hbr
      rw [← hbr]
      clear a1 k1 g1 vo hbr
      go_wp2_with fail
      refine (get_any A1.out hB HX.out (Nat.zero_le _) 2 (by decide) _ rfl).mono ?_
      rintro e w2 ⟨rfl, a2⟩
      rw [← HN1.out, ← HF1.out] at a2
      rw [← HK.out]
      have A2 := Lib.hid a2.here
      have R2 := Lib.hid (a2.kp.blk R1.out (fun e => by have e : br = q := e; have := G1.out; omega))
      have K2 := Lib.hid (K1.out.newer a2.kp (by have := G1.out; have := HBR.out; omega))
      have Z2 := Lib.hid (Nat.lt_of_lt_of_le l1 a2.kp.size)
      have ZV := Lib.hid (show ∀ g, V.ownBlock = some g → br < g ∧ g < w2.heap.size from fun g hg => ⟨(VO.out g hg).1, Nat.lt_of_lt_of_le (VO.out g hg).2 a2.kp.size⟩)
      obtain ⟨bx, hbx⟩ : ∃ bx, bx = w2.heap.size := ⟨_, rfl⟩
      have HBX := Lib.hid hbx
      have hbrx : br < bx := by have := G1.out; have := Z2.out; omega
      clear a2 l1
      go_wp2_with fail
      refine (get_any (A2.out.kpNo ((Kp.refl No w2).alloc (.cells #[.int .u8 (k : Int), .int .i64 0, .int .i64 0] 40))).here hB HX.out hb1 8 (by decide) _ rfl).mono ?_
      rintro e w3 ⟨rfl, a3⟩
      rw [← HN2.out, ← HF2.out] at a3
      rw [← HC.out, ← hbx]
      have X3 := Lib.hid (show w3.heap[bx]? = some (.cells #[.int .u8 (k : Int), .int .i64 0, .int .i64 0] 40 (0, 0)) by rw [hbx]; exact a3.kp.blk (blk_new w2 _) (fun e => by have e : w2.heap.size = q := e; have := Z2.out; omega))
      have R3 := Lib.hid (a3.kp.blk (blk_alloc R2.out _) (fun e => by have e : br = q := e; have := G1.out; omega))
      have A3 := Lib.hid a3.here
      have K3 := Lib.hid ((K2.out.alloc _).newer a3.kp (by have := G1.out; have := HBR.out; omega))
      have y1 : w3.cell? ⟨bx, 1, none⟩ = some (.int .i64 0) := (blk_cell X3.out 1).trans rfl
      have y1f : w3.frozen? ⟨bx, 1, none⟩ = false := blk_free X3.out 1
      have NQ := Lib.hid (show ¬ (q = bx) by have := Z2.out; omega)
      have NV := Lib.hid (show ∀ g, V.ownBlock = some g → ¬ (g = bx) from fun g hg e => by have := (ZV.out g hg).2; omega)
      clear a3 hbx
      go_wp2_with fail
      refine (get_any (A3.out.far (Kp.one (p := bx) 1 (.int .i64 (c : Int))) NQ.out NV.out) hB HX.out hb2 6 (by decide) _ rfl).mono ?_
      rintro e w4 ⟨rfl, a4⟩
      rw [← HN3.out, ← HF3.out] at a4
      rw [← HP.out]
      have X4 := Lib.hid (show w4.heap[bx]? = some (.cells #[.int .u8 (k : Int), .int .i64 (c : Int), .int .i64 0] 40 (0, 0)) from a4.kp.blk ((blk_set X3.out 1 _).trans rfl) (fun e => NQ.out e.symm))
      have R4 := Lib.hid (a4.kp.blk (blk_far R3.out (p := ⟨bx, 1, none⟩) (by show br ≠ bx; omega) (.int .i64 (c : Int))) (fun e => by have e : br = q := e; have := G1.out; omega))
      have A4 := Lib.hid a4.here
      have K4 := Lib.hid ((K3.out.newer (Kp.one (p := bx) 1 (.int .i64 (c : Int))) (by have := HBR.out; omega)).newer a4.kp (by have := G1.out; have := HBR.out; omega))
      have y2 : w4.cell? ⟨bx, 2, none⟩ = some (.int .i64 0) := (blk_cell X4.out 2).trans rfl
      have y2f : w4.frozen? ⟨bx, 2, none⟩ = false := blk_free X4.out 2
      clear a4
      go_wp2_with fail
      refine (end_any (A4.out.far (Kp.one (p := bx) 2 (.int .i64 (p : Int))) NQ.out NV.out) hB HX.out hb3).mono ?_
      rintro e w5 ⟨rfl, k5⟩
      rw [← HE.out]
      have X5 := Lib.hid (show w5.heap[bx]? = some (.cells #[.int .u8 (k : Int), .int .i64 (c : Int), .int .i64 (p : Int)] 40 (0, 0)) from k5.blk ((blk_set X4.out 2 _).trans rfl) (no_no _))
      have R5 := Lib.hid (k5.blk (blk_far R4.out (p := ⟨bx, 2, none⟩) (by show br ≠ bx; omega) (.int .i64 (p : Int))) (no_no _))
      have K5 := Lib.hid ((K4.out.newer (Kp.one (p := bx) 2 (.int .i64 (p : Int))) (by have := HBR.out; omega)).trans k5)
      go_wp2_with fail
      refine (left_any (((A4.out.far (Kp.one (p := bx) 2 (.int .i64 (p : Int))) NQ.out NV.out)).kpNo k5) hB hb3).mono ?_
      rintro e w6 ⟨rfl, k6⟩
      have X6 := Lib.hid (k6.blk X5.out (no_no _))
      have R6 := Lib.hid (k6.blk R5.out (no_no _))
      have K6 := Lib.hid (K5.out.trans k6)
      have x0 : w6.cell? ⟨bx, 0, none⟩ = some (.int .u8 (k : Int)) := (blk_cell X6.out 0).trans rfl
      have x1 : w6.cell? ⟨bx, 1, none⟩ = some (.int .i64 (c : Int)) := (blk_cell X6.out 1).trans rfl
      have x2 : w6.cell? ⟨bx, 2, none⟩ = some (.int .i64 (p : Int)) := (blk_cell X6.out 2).trans rfl
      have e0 : 8 * (B.length : Int) - (n3 : Int) = 0 := by omega
      rw [e0]
      clear k5 k6 e0
      go_wp2_with fail
      refine (mayA_any k (c : Int) (p : Int) (by omega) w6 _ HM.out).mono ?_
      rintro e w7 ⟨rfl, k7⟩
      have X7 := Lib.hid (k7.blk X6.out (no_no _))
      have R7 := Lib.hid (k7.blk R6.out (no_no _))
      have K7 := Lib.hid (K6.out.trans k7)
      clear k7
      have x3 : w7.cell? ⟨bx, 0, none⟩ = some (.int .u8 (k : Int)) := (blk_cell X7.out 0).trans rfl
      have x4 : w7.cell? ⟨bx, 1, none⟩ = some (.int .i64 (c : Int)) := (blk_cell X7.out 1).trans rfl
      have x5 : w7.cell? ⟨bx, 2, none⟩ = some (.int .i64 (p : Int)) := (blk_cell X7.out 2).trans rfl
      have u0 : w7.cell? ⟨br, 0, none⟩ = some (.int .u8 0) := (blk_cell R7.out 0).trans rfl
      have u1 : w7.cell? ⟨br, 1, none⟩ = some (.int .i64 0) := (blk_cell R7.out 1).trans rfl
      have u2 : w7.cell? ⟨br, 2, none⟩ = some (.int .i64 0) := (blk_cell R7.out 2).trans rfl
      have v0 : w7.frozen? ⟨br, 0, none⟩ = false := blk_free R7.out 0
      have v1 : w7.frozen? ⟨br, 1, none⟩ = false := blk_free R7.out 1
      have v2 : w7.frozen? ⟨br, 2, none⟩ = false := blk_free R7.out 2
      go_wp2
      have bE := blk_set (blk_set (blk_set R7.out 0 (.int .u8 (k : Int))) 1 (.int .i64 (c : Int))) 2 (.int .i64 (p : Int))
      have r0 := (blk_cell bE 0).trans rfl
      have r1 := (blk_cell bE 1).trans rfl
      have r2 := (blk_cell bE 2).trans rfl
      have kE := ((K7.out.newer (Kp.one (w := w7) (p := br) 0 (.int .u8 (k : Int))) (by have := HBR.out; omega)).newer (Kp.one (p := br) 1 (.int .i64 (c : Int))) (by have := HBR.out; omega)).newer (Kp.one (p := br) 2 (.int .i64 (p : Int))) (by have := HBR.out; omega)
      exact bodyPost_ret (v := .tuple #[.agg #[.int .u8 (k : Int), .int .i64 (c : Int), .int .i64 (p : Int)], .int .i64 0]) (by simp [results, Tryz.results108, go_sem, r0, r1, r2]) rfl (YES.out _ kE)
end Go.Proofs.YtfpikgkbccgchaaGreatDoor

namespace Go.Proofs.YtfpikgkbccgchaaGreatDoor
set_option linter.unusedVariables false
set_option linter.unusedSimpArgs false
open Go.RowKit

/-- What was told last is taken as heard. -/
def selfS (R : Rob) : Rob := { R with told := if R.on then R.told + 1 else R.told, on := false }
def SelfR (p ph ps : Nat) (pa : Option Nat) (V : Value) (R : Rob) (w : World) (e : Ending) (w' : World) : Prop :=
  e = .returned (.tuple #[]) ∧ (∃ V', RobS p ph ps pa V' (selfS R) w' ∧ ∀ g, V'.ownBlock = some g → V.ownBlock = some g ∨ w.heap.size ≤ g) ∧ Kp (fun k => k = ps) w w'

set_option maxRecDepth 100000 in
theorem self_any {p ph ps : Nat} {pa : Option Nat} {V : Value} {R : Rob} {w : World} (h : RobS p ph ps pa V R w) (ok : R.ok) : Calls Tryz.prog 109 #[.pointer (some ⟨p, 0, none⟩)] w (SelfR p ph ps pa V R w) := by
  obtain ⟨c0, c1, c2, c3, c4, c5, c6, c7, c8⟩ := h.cells
  have H := Lib.hid h; have OK := Lib.hid ok
  clear h ok c0 c1 c2 c3 c4 c5 c6 c7
  cases ho : R.on with
  | false =>
    have HS := Lib.hid (show selfS R = R by unfold selfS; rw [ho]; cases R; simp at ho; subst ho; rfl)
    have HO := Lib.hid ho
    clear ho
    go_enter Tryz.func109, Tryz.ntmps109
    go_wp2_with fail
    refine (packet_any H.out.s).mono ?_
    rintro e w1 ⟨v1, rfl, k1⟩
    rw [HO.out]
    obtain ⟨A1, c1, rfl⟩ := k1.own.rd.shape
    have K1 := Lib.hid k1.kp
    clear k1
    go_wp2
    go_end0
    exact ⟨rfl, ⟨V, by rw [HS.out]; exact H.out.no K1.out, fun g hg => .inl hg⟩, K1.out.mono fun _ _ e => e.elim⟩
  | true =>
    have hb := OK.out.on ho
    obtain ⟨n, hn⟩ : ∃ n, n = R.told + 1 := ⟨_, rfl⟩
    have L1 := laid_p (lay_f_ok n [] (by omega) (by simp)) (by omega) (by simp)
    obtain ⟨F, hF⟩ : ∃ F, F = layL false n [] := ⟨_, rfl⟩
    rw [← hF] at L1
    obtain ⟨G, hG⟩ : ∃ G, G = layL true n [] := ⟨_, rfl⟩
    have hh := heard_laid R.told n true (by omega)
    rw [← hG, hn] at hh
    have hh2 : heardB R.told true G = true := by rw [hh]; simp
    have hFl : F.length ≤ 1000000 := by rw [hF]; exact Nat.le_trans (layL_len _ _ _ (by omega)) (by decide)
    have hGl : G.length ≤ 1000000 := by rw [hG]; exact Nat.le_trans (layL_len _ _ _ (by omega)) (by decide)
    have HFX := Lib.hid (show ∀ y ∈ F, y < 256 by rw [hF]; exact layL_lt _ _ _)
    have HGX := Lib.hid (show ∀ y ∈ G, y < 256 by rw [hG]; exact layL_lt _ _ _)
    have LP := Lib.hid L1; have HF := Lib.hid hF; have HG := Lib.hid hG; have HH := Lib.hid hh2; have HN := Lib.hid hn; have HNL := Lib.hid (show n < 18446744073709551616 by omega)
    have HO := Lib.hid ho
    have PK := Lib.hid (show pktL R.told true [] = F by unfold pktL; rw [if_pos rfl, hF, hn])
    clear L1 hF hG hh hh2 hn hb ho
    go_enter Tryz.func109, Tryz.ntmps109
    go_wp2_with fail
    refine (packet_any H.out.s).mono ?_
    rintro e w1 ⟨v1, rfl, k1⟩
    rw [HO.out] at k1 ⊢
    rw [PK.out] at k1
    obtain ⟨A1, c1, rfl⟩ := k1.own.rd.shape
    have K1 := Lib.hid k1
    clear k1
    go_wp2_with fail
    refine (take_any K1.out.own.rd hFl HFX.out).mono ?_
    rintro e w2 ⟨v2, rfl, k2⟩
    rw [LP.out.h, LP.out.n, LP.out.e]
    rw [LP.out.d] at k2
    obtain ⟨A2, c2, rfl⟩ := k2.own.rd.shape
    have K2 := Lib.hid k2.kp
    clear k2
    go_wp2_with fail
    refine (lay_any (Rd.nil BK _) true n HNL.out (by simp)).mono ?_
    rintro e w3 ⟨v3, rfl, k3⟩
    rw [← HG.out] at k3
    obtain ⟨A3, c3, rfl⟩ := k3.own.rd.shape
    have K3 := Lib.hid k3
    have KK := Lib.hid (((K1.out.kp.trans K2.out).alloc _).trans k3.kp)
    clear k3
    have d8 : w3.cell? ⟨p, 8, none⟩ = some (.pointer (some ⟨ps, 0, none⟩)) := (blk_cell (H.out.no KK.out).blk 8).trans rfl
    go_wp2_with fail
    refine (shear_any (H.out.no KK.out).s K3.out.own.rd hGl HGX.out).mono ?_
    rintro e w4 ⟨rfl, k4, s4⟩
    rw [HO.out, HH.out, if_pos rfl, if_pos rfl, if_pos rfl] at s4
    have S4 := Lib.hid s4; have K4 := Lib.hid k4
    clear k4 s4
    go_wp2
    go_end0
    have H3 := H.out.no KK.out
    have ty := Ty.one H3.s.blk
    refine ⟨rfl, ⟨.slice none 0 0, ⟨K4.out.blk H3.blk (ty.not H3.blk (by decide)), H3.non, fun k c q e => ?_, H3.r.far K4.out (ty.not H3.r.blk (by decide)), ?_⟩, by simp [Value.ownBlock]⟩, (KK.out.mono fun _ _ e => e.elim).trans K4.out⟩
    · obtain ⟨a, e1, e2⟩ := H3.act k c q e
      exact ⟨a, e1, K4.out.blk e2 (ty.not e2 (by decide))⟩
    · unfold selfS
      rw [HO.out]
      exact S4.out

theorem RobS.setR {p ph ps : Nat} {pa : Option Nat} {V : Value} {R : Rob} {w w1 : World} {h' : Nat} (h : RobS p ph ps pa V R w) (hk : Kp (fun k => k = ph) w w1) (r : RcvS ph h' w1) : RobS p ph ps pa V { R with heard := h' } w1 := by
  have ty := Ty.one h.r.blk
  exact ⟨hk.blk h.blk (ty.not h.blk (by decide)), h.non, fun k c q e => let ⟨a, e1, e2⟩ := h.act k c q e; ⟨a, e1, hk.blk e2 (ty.not e2 (by decide))⟩, r, h.s.far hk (ty.not h.s.blk (by decide)) (ty.notO h.s.own (by decide))⟩

def RHearRR (p ph ps : Nat) (pa : Option Nat) (V : Value) (R : Rob) (F : List Nat) (w : World) (e : Ending) (w' : World) : Prop :=
  ∃ v', e = .returned v' ∧ Own BK 5 w' v' (hearB R F) ∧ (∀ g, v'.ownBlock = some g → w.heap.size ≤ g) ∧ RobTo p ph ps pa V (hearS R F) w w'

set_option maxHeartbeats 1000000 in
set_option maxRecDepth 100000 in
theorem robHear_any {p ph ps : Nat} {pa : Option Nat} {V v : Value} {R : Rob} {w : World} (h : RobS p ph ps pa V R w) (ok : R.ok) {F : List Nat} (hv : Rd BK w v F) (hl : F.length ≤ 1000000) (hx : ∀ x ∈ F, x < 256) (hdl : (tkD F).length ≤ 1000000) (hdx : ∀ x ∈ tkD F, x < 256) :
    Calls Tryz.prog 62 #[.pointer (some ⟨p, 0, none⟩), v] w (RHearRR p ph ps pa V R F w) := by
  obtain ⟨A, cap, rfl⟩ := hv.shape
  obtain ⟨c0, c1, c2, c3, c4, c5, c6, c7, c8⟩ := h.cells
  have H := Lib.hid h; have OK := Lib.hid ok; have HV := Lib.hid hv; have HX := Lib.hid hx; have HDX := Lib.hid hdx
  obtain ⟨G, hG⟩ : ∃ G, G = hearB R F := ⟨_, rfl⟩
  have HG := Lib.hid hG
  obtain ⟨fr, hfr⟩ : ∃ fr, fr = freshB R.heard F := ⟨_, rfl⟩
  have HFR := Lib.hid hfr
  clear h ok hv hx hdx hG hfr c0 c1 c2 c3 c4 c6 c8
  cases fr with
  | false =>
    have hS : hearS R F = R := by
      have e : takesB R F = false := by unfold takesB; rw [← HFR.out]; rfl
      unfold hearS; rw [← HFR.out, e]; simp
    have HS := Lib.hid hS
    clear hS
    go_enter Tryz.func62, Tryz.ntmps62
    go_wp2_with fail
    refine (rhear_any H.out.r HV.out hl HX.out).mono ?_
    rintro e w1 ⟨v1, v2, rfl, k1, r1, o1, o2, g1, g2⟩
    rw [← HFR.out] at r1 o1 ⊢
    have o2 : Own BK 5 w1 v2 G := by rw [HG.out]; exact o2
    obtain ⟨A1, q1, rfl⟩ := o1.rd.shape
    obtain ⟨A2, q2, rfl⟩ := o2.rd.shape
    have R1 := Lib.hid (H.out.setR k1 r1); have K1 := Lib.hid k1; have O2 := Lib.hid o2; have G2 := Lib.hid g2
    clear k1 r1 o1 o2 g1 g2
    go_wp2
    go_ret
    refine ⟨_, rfl, by rw [← HG.out]; exact O2.out, G2.out, ⟨⟨pa, V, ?_, fun _ e => .inl e, fun _ e => .inl e⟩, K1.out.mono fun _ _ e => .inr (.inl e)⟩⟩
    rw [HS.out]; exact R1.out
  | true =>
    cases hact : R.act with
    | some x =>
      have hS : hearS R F = { R with heard := nxt R.heard } := by
        have e : takesB R F = false := by unfold takesB; rw [hact]; simp
        unfold hearS; rw [← HFR.out, e]; simp
      have HS := Lib.hid hS
      obtain ⟨k, c, q⟩ := x
      obtain ⟨a, rfl, ba⟩ := H.out.act k c q hact
      clear hS hact ba
      unfold actV at c5
      simp only [Option.map_some] at c5
      go_enter Tryz.func62, Tryz.ntmps62
      go_wp2_with fail
      refine (rhear_any H.out.r HV.out hl HX.out).mono ?_
      rintro e w1 ⟨v1, v2, rfl, k1, r1, o1, o2, g1, g2⟩
      rw [← HFR.out] at r1 o1 ⊢
      have o2 : Own BK 5 w1 v2 G := by rw [HG.out]; exact o2
      obtain ⟨A1, q1, rfl⟩ := o1.rd.shape
      obtain ⟨A2, q2, rfl⟩ := o2.rd.shape
      have R1 := Lib.hid (H.out.setR k1 r1); have K1 := Lib.hid k1; have O2 := Lib.hid o2; have G2 := Lib.hid g2
      have d5 : w1.cell? ⟨p, 5, none⟩ = some (.pointer (some ⟨a, 0, none⟩)) := (blk_cell R1.out.blk 5).trans rfl
      clear k1 r1 o1 o2 g1 g2
      go_wp2
      go_ret
      refine ⟨_, rfl, by rw [← HG.out]; exact O2.out, G2.out, ⟨⟨_, V, ?_, fun _ e => .inl e, fun _ e => .inl e⟩, K1.out.mono fun _ _ e => .inr (.inl e)⟩⟩
      rw [HS.out]; exact R1.out
    | none =>
      obtain rfl := H.out.non hact
      unfold actV at c5
      simp only [Option.map_none] at c5
      obtain ⟨D, hD⟩ : ∃ D, D = tkD F := ⟨_, rfl⟩
      rw [← hD] at hdl HDX
      obtain ⟨tk, htk⟩ : ∃ tk, tk = tkaOk D := ⟨_, rfl⟩
      have ht : takesB R F = tk := by unfold takesB; rw [← HFR.out, hact, ← hD, htk]; rfl
      have hE : tkaE D = if tk then 0 else 170 := by unfold tkaE; rw [htk]
      have HD := Lib.hid hD; have HTK := Lib.hid htk; have HT := Lib.hid ht; have HE := Lib.hid hE; have HACT := Lib.hid hact
      clear hD htk ht hE hact
      cases tk with
      | false =>
        have hS : hearS R F = { R with heard := nxt R.heard } := by
          unfold hearS; rw [← HFR.out, HT.out]; simp
        have HS := Lib.hid hS
        have HE2 := Lib.hid (show tkaE D = 170 from HE.out)
        clear hS
        go_enter Tryz.func62, Tryz.ntmps62
        go_wp2_with fail
        refine (rhear_any H.out.r HV.out hl HX.out).mono ?_
        rintro e w1 ⟨v1, v2, rfl, k1, r1, o1, o2, g1, g2⟩
        rw [← HFR.out] at r1 o1 ⊢
        have o2 : Own BK 5 w1 v2 G := by rw [HG.out]; exact o2
        rw [if_pos rfl, ← HD.out] at o1
        obtain ⟨A1, q1, rfl⟩ := o1.rd.shape
        obtain ⟨A2, q2, rfl⟩ := o2.rd.shape
        have R1 := Lib.hid (H.out.setR k1 r1); have K1 := Lib.hid k1; have O1 := Lib.hid o1; have O2 := Lib.hid o2; have G2 := Lib.hid g2
        have d5 : w1.cell? ⟨p, 5, none⟩ = some (.pointer none) := (blk_cell R1.out.blk 5).trans rfl
        clear k1 r1 o1 o2 g1 g2
        go_wp2_with fail
        refine (takeA_any O1.out.rd hdl HDX.out).mono ?_
        rintro e w2 ⟨rfl, k2⟩
        rw [HE2.out]
        have K2 := Lib.hid k2
        clear k2
        go_wp2
        go_ret
        refine ⟨_, rfl, by rw [← HG.out]; exact (O2.out.kpNo K2.out).alloc _, G2.out, ⟨⟨_, V, ?_, fun _ e => .inl e, fun _ e => .inl e⟩, ((K1.out.no K2.out).alloc _).mono fun _ _ e => .inr (.inl e)⟩⟩
        rw [HS.out]; exact (R1.out.no K2.out).no ((Kp.refl No _).alloc _)
      | true =>
        have hS : hearS R F = { selfS { R with heard := nxt R.heard } with act := some (tkaK D, (tkaC D : Int), (tkaP D : Int)) } := by
          unfold hearS selfS tkaK tkaC tkaP; rw [← HFR.out, HT.out, ← HTK.out, ← HD.out]; simp
        have HS := Lib.hid hS
        have HE2 := Lib.hid (show tkaE D = 0 from HE.out)
        have OK1 : Hid ({ R with heard := nxt R.heard } : Rob).ok := Lib.hid ⟨OK.out.act, OK.out.go, OK.out.ch, OK.out.chb, OK.out.fullb, OK.out.done, nxt_lt _, OK.out.told, OK.out.on⟩
        clear hS
        go_enter Tryz.func62, Tryz.ntmps62
        go_wp2_with fail
        refine (rhear_any H.out.r HV.out hl HX.out).mono ?_
        rintro e w1 ⟨v1, v2, rfl, k1, r1, o1, o2, g1, g2⟩
        rw [← HFR.out] at r1 o1 ⊢
        have o2 : Own BK 5 w1 v2 G := by rw [HG.out]; exact o2
        rw [if_pos rfl, ← HD.out] at o1
        rw [if_pos rfl] at r1
        obtain ⟨A1, q1, rfl⟩ := o1.rd.shape
        obtain ⟨A2, q2, rfl⟩ := o2.rd.shape
        have R1 := Lib.hid (H.out.setR k1 r1); have K1 := Lib.hid k1; have O1 := Lib.hid o1; have O2 := Lib.hid o2; have G2 := Lib.hid g2
        have d5 : w1.cell? ⟨p, 5, none⟩ = some (.pointer none) := (blk_cell R1.out.blk 5).trans rfl
        clear k1 r1 o1 o2 g1 g2
        go_wp2_with fail
        refine (takeA_any O1.out.rd hdl HDX.out).mono ?_
        rintro e w2 ⟨rfl, k2⟩
        rw [HE2.out]
        have K2 := Lib.hid k2
        clear k2
        go_wp2_with fail
        refine (self_any ((R1.out.no K2.out).no ((Kp.refl No w2).alloc (.cells #[.int .u8 (tkaK D : Int), .int .i64 (tkaC D : Int), .int .i64 (tkaP D : Int)] 40))) OK1.out).mono ?_
        rintro e w3 ⟨rfl, ⟨V3, h3, v3⟩, k3⟩
        have H3 := Lib.hid h3; have V3' := Lib.hid v3; have K3 := Lib.hid k3
        have e5 : w3.cell? ⟨p, 5, none⟩ = some (.pointer none) := (blk_cell h3.blk 5).trans rfl
        have e5f : w3.frozen? ⟨p, 5, none⟩ = false := blk_free h3.blk 5
        have tyS := Ty.one ((R1.out.no K2.out).no ((Kp.refl No w2).alloc (.cells #[.int .u8 (tkaK D : Int), .int .i64 (tkaC D : Int), .int .i64 (tkaP D : Int)] 40))).s.blk
        have BA := Lib.hid (k3.blk (blk_new w2 _) (tyS.not (blk_new w2 _) (by decide)))
        have O3 := Lib.hid (((O2.out.kpNo K2.out).alloc (.cells #[.int .u8 (tkaK D : Int), .int .i64 (tkaC D : Int), .int .i64 (tkaP D : Int)] 40)).kpB k3 (tyS.byt (by decide)))
        clear h3 v3 k3 tyS
        go_wp2
        go_ret
        have kE := Kp.one (w := w3) (p := p) 5 (.pointer (some ⟨w2.heap.size, 0, none⟩))
        have ty := Ty.one H3.out.blk
        refine ⟨_, rfl, by rw [← HG.out]; exact O3.out.kpB kE (ty.byt (by decide)), G2.out, ⟨⟨some w2.heap.size, V3, ?_, fun a e => ?_, fun g hg => ?_⟩, ?_⟩⟩
        · rw [HS.out]
          refine ⟨(blk_set H3.out.blk 5 _).trans rfl, (fun e => by cases e), fun k c q e => ?_, H3.out.r.far kE (ty.not H3.out.r.blk (by decide)), H3.out.s.far kE (ty.not H3.out.s.blk (by decide)) (ty.notO H3.out.s.own (by decide))⟩
          simp only [Option.some.injEq, Prod.mk.injEq] at e
          obtain ⟨rfl, rfl, rfl⟩ := e
          exact ⟨_, rfl, kE.blk BA.out (ty.not BA.out (by decide))⟩
        · simp only [Option.some.injEq] at e
          have := (K1.out.no K2.out).size; omega
        · rcases V3'.out g hg with e | e
          · exact .inl e
          · have := (K1.out.no K2.out).size; simp at e; omega
        · have a1 := (K1.out.no K2.out).alloc (.cells #[.int .u8 (tkaK D : Int), .int .i64 (tkaC D : Int), .int .i64 (tkaP D : Int)] 40)
          exact ((a1.mono (S2 := fun k => k = p ∨ k = ph ∨ k = ps) fun _ _ e => .inr (.inl e)).trans (K3.out.mono fun _ _ e => .inr (.inr e))).trans (kE.mono fun _ _ e => .inl e)
end Go.Proofs.YtfpikgkbccgchaaGreatDoor

namespace Go.Proofs.YtfpikgkbccgchaaGreatDoor
set_option linter.unusedVariables false
set_option linter.unusedSimpArgs false
open Go.RowKit

/-- An int's cell. -/
def IK : Kd Int := { sz := 1, enc := fun x => [.int .i64 x], len := fun _ => rfl, one := by intro a v hv; simp at hv; subst hv; rfl, pos := by decide }
theorem elI : ElT Tryz.prog 24 3 IK 8 := ElT.of (z := .int .i64 0) (by kernel_rfl) (by kernel_rfl) rfl
theorem Rd.intAt {w : World} {l : List Int} {g o n cap : Nat} (h : Rd IK w (.slice (some ⟨g, o, none⟩) n cap) l) {i : Nat} {x : Int} (hx : l[i]? = some x) : w.cell? ⟨g, o + i, none⟩ = some (.int .i64 x) := by
  have := h.at rfl hx (j := 0) rfl
  simpa [IK] using this
theorem Rd.lenI {α : Type} {K : Kd α} {w : World} {v : Value} {l : List α} (h : Rd K w v l) : l.length ≤ maxLen := by
  rcases h with ⟨_, rfl⟩ | ⟨_, _, _, _, h1, h2, _⟩
  · simp
  · omega

set_option maxRecDepth 100000 in
theorem sameInts_any {w : World} {v v' : Value} {a b : List Int} (hv : Rd IK w v a) (hv' : Rd IK w v' b) (d : Bool) (hd : d = decide (a = b)) :
    Calls Tryz.prog 29 #[v, v'] w fun e w' => e = .returned (.bool d) ∧ Kp No w w' := by
  have hla := hv.lenI
  obtain ⟨A, ca, rfl⟩ := hv.shape
  obtain ⟨B, cb, rfl⟩ := hv'.shape
  have H := Lib.hid hv; have H' := Lib.hid hv'; have HD := Lib.hid hd
  unfold maxLen at hla
  clear hv hv' hd
  by_cases hl : a.length = b.length
  · have hlI : (a.length : Int) = (b.length : Int) := by omega
    have hlb : ((a.length : Int) != (b.length : Int)) = false := by simp [hl]
    have HLL := Lib.hid hl
    have hlN : (a.length != b.length) = false := by simp [hl]
    clear hl hlI
    go_enter Tryz.func29, Tryz.ntmps29
    go_wp2
    go_loopw [5] (fun i wr => ∃ k : Nat, i = .int .i64 k ∧ k ≤ a.length ∧ a.take k = b.take k ∧ Kp No w wr) (fun i _ => a.length - (intOf i).toNat)
    case atStart => exact ⟨0, rfl, by omega, rfl, Kp.refl _ _⟩
    case round =>
      obtain ⟨k, rfl, hk, ht, hkp⟩ := hrel
      have KP := Lib.hid hkp; have HT := Lib.hid ht
      clear hkp ht
      by_cases hlt : k < a.length
      · have hltI : (k : Int) < (a.length : Int) := by omega
        have hltB : (k : Int) < (b.length : Int) := by have := HLL.out; omega
        have h0 : (0 : Int) ≤ (k : Int) := by omega
        have hwk : IntKind.i64.wrap ((k : Int) + 1) = (k : Int) + 1 := IntWalk.i64_in _ (by omega)
        obtain ⟨x, hx⟩ : ∃ x, a[k]? = some x := ⟨_, List.getElem?_eq_getElem hlt⟩
        obtain ⟨y, hy⟩ : ∃ y, b[k]? = some y := ⟨_, List.getElem?_eq_getElem (by have := HLL.out; omega)⟩
        rcases H.out with ⟨_, he⟩ | ⟨g, o, cap', hv, _⟩
        · rw [he] at hlt; simp at hlt
        simp only [Value.slice.injEq] at hv
        obtain ⟨rfl, _, rfl⟩ := hv
        rcases H'.out with ⟨_, he⟩ | ⟨g', o', cap'', hv, _⟩
        · rw [he] at hy; simp at hy
        simp only [Value.slice.injEq] at hv
        obtain ⟨rfl, _, rfl⟩ := hv
        have hc := (H.out.kpNo KP.out).intAt hx
        have hc' := (H'.out.kpNo KP.out).intAt hy
        have HX := Lib.hid hx; have HY := Lib.hid hy
        clear hx hy hlt
        by_cases hxy : x = y
        · subst hxy
          go_wp2
          go_quiet (fail)
          go_wp2
          go_roundw
          case rel => exact ⟨k + 1, by go_num, by omega, by rw [List.take_add_one, List.take_add_one, HT.out, HX.out, HY.out], KP.out.drewN _⟩
          case measure => simp [intOf]; omega
        · have hxb : (x != y) = true := by simpa using hxy
          have hne : d = false := by
            rw [HD.out, decide_eq_false_iff_not]
            intro e
            have h1 := HX.out
            rw [e, HY.out] at h1
            simp only [Option.some.injEq] at h1
            exact hxy h1.symm
          have HNE := Lib.hid hne
          clear hxy hne
          go_wp2
          go_quiet (fail)
          go_wp2
          go_ret
          exact ⟨by rw [HNE.out]; rfl, KP.out.drewN _⟩
      · obtain rfl : k = a.length := by omega
        have hd0 : ¬ (a.length : Int) < (a.length : Int) := by omega
        have hE : d = true := by
          rw [HD.out, decide_eq_true_eq]
          have h1 := HT.out
          rwa [List.take_length, HLL.out, List.take_length] at h1
        have HE := Lib.hid hE
        clear hlt hE
        go_wp2
        go_ret
        exact ⟨by rw [HE.out]; rfl, KP.out⟩
  · have hlb : ((a.length : Int) != (b.length : Int)) = true := by simp; omega
    have hlN : (a.length != b.length) = true := by simp [hl]
    have hE : d = false := by
      rw [HD.out, decide_eq_false_iff_not]
      intro e; exact hl (by rw [e])
    have HE := Lib.hid hE
    clear hE hl
    go_enter Tryz.func29, Tryz.ntmps29
    go_wp2
    go_ret
    exact ⟨by rw [HE.out]; rfl, Kp.refl _ _⟩
end Go.Proofs.YtfpikgkbccgchaaGreatDoor

namespace Go.Proofs.YtfpikgkbccgchaaGreatDoor
set_option linter.unusedVariables false
set_option linter.unusedSimpArgs false
open Go.RowKit

def NextR (R : Rob) (w : World) (e : Ending) (w' : World) : Prop := e = .returned (.tuple #[.agg #[.int .u8 (actK R : Int), .int .i64 (actC R), .int .i64 (actP R)], .bool R.act.isSome]) ∧ Kp No w w'
set_option maxRecDepth 100000 in
theorem next_any {p ph ps : Nat} {pa : Option Nat} {V : Value} {R : Rob} {w : World} (h : RobS p ph ps pa V R w) : Calls Tryz.prog 63 #[.pointer (some ⟨p, 0, none⟩)] w (NextR R w) := by
  obtain ⟨c0, c1, c2, c3, c4, c5, c6, c7, c8⟩ := h.cells
  have H := Lib.hid h
  have hpl := lt_of_block h.blk
  have hb := blk_new w (.cells #[.int .u8 0, .int .i64 0, .int .i64 0] 40)
  have B := Lib.hid hb
  have d5 : (w.alloc (.cells #[.int .u8 0, .int .i64 0, .int .i64 0] 40)).cell? ⟨p, 5, none⟩ = some (actV pa) := (blk_cell (blk_alloc h.blk _) 5).trans rfl
  cases hact : R.act with
  | none =>
    obtain rfl := h.non hact
    have HN := Lib.hid (show actK R = 0 ∧ actC R = 0 ∧ actP R = 0 ∧ R.act.isSome = false by unfold actK actC actP; rw [hact]; exact ⟨rfl, rfl, rfl, rfl⟩)
    unfold actV at d5
    simp only [Option.map_none] at d5
    clear h hact c0 c1 c2 c3 c4 c5 c6 c7 c8 hb
    go_enter Tryz.func63, Tryz.ntmps63
    go_wp2
    have bE := blk_set (blk_set (blk_set B.out 0 (.int .u8 0)) 1 (.int .i64 0)) 2 (.int .i64 0)
    have r0 := (blk_cell bE 0).trans rfl
    have r1 := (blk_cell bE 1).trans rfl
    have r2 := (blk_cell bE 2).trans rfl
    first
      | exact bodyPost_ret (v := .tuple #[.agg #[.int .u8 0, .int .i64 0, .int .i64 0], .bool false]) (by simp [results, Tryz.results63, go_sem, r0, r1, r2]) rfl ⟨by rw [HN.out.1, HN.out.2.1, HN.out.2.2.1, HN.out.2.2.2]; rfl, (Kp.refl _ _).alloc _⟩
  | some x =>
    obtain ⟨k, c, q⟩ := x
    obtain ⟨a, rfl, ba⟩ := h.act k c q hact
    have HN := Lib.hid (show actK R = k ∧ actC R = c ∧ actP R = q ∧ R.act.isSome = true by unfold actK actC actP; rw [hact]; exact ⟨rfl, rfl, rfl, rfl⟩)
    unfold actV at d5
    simp only [Option.map_some] at d5
    have ba2 := blk_alloc ba (.cells #[.int .u8 0, .int .i64 0, .int .i64 0] 40)
    have a0 : (w.alloc (.cells #[.int .u8 0, .int .i64 0, .int .i64 0] 40)).cell? ⟨a, 0, none⟩ = some (.int .u8 (k : Int)) := (blk_cell ba2 0).trans rfl
    have a1 : (w.alloc (.cells #[.int .u8 0, .int .i64 0, .int .i64 0] 40)).cell? ⟨a, 1, none⟩ = some (.int .i64 c) := (blk_cell ba2 1).trans rfl
    have a2 : (w.alloc (.cells #[.int .u8 0, .int .i64 0, .int .i64 0] 40)).cell? ⟨a, 2, none⟩ = some (.int .i64 q) := (blk_cell ba2 2).trans rfl
    clear h hact c0 c1 c2 c3 c4 c5 c6 c7 c8 hb ba ba2
    go_enter Tryz.func63, Tryz.ntmps63
    go_wp2
    first
      | exact bodyPost_ret (v := .tuple #[.agg #[.int .u8 (k : Int), .int .i64 c, .int .i64 q], .bool true]) (by simp [results, Tryz.results63, go_sem]) rfl ⟨by rw [HN.out.1, HN.out.2.1, HN.out.2.2.1, HN.out.2.2.2], (Kp.refl _ _).alloc _⟩

def CellsR (l : List Int) (w : World) (e : Ending) (w' : World) : Prop := ∃ v', e = .returned v' ∧ NewS IK 3 w w' v' l
theorem int_new (w w0 : World) (cs : List Value) (l : List Int) (hc : cs = IK.encs l) (hm : l.length ≤ 1000) (hk : Kp No w0 w) (n : Nat) (hn : n = l.length) : NewS IK 3 w0 (w.alloc (.cells cs.toArray 3)) (.slice (some ⟨w.heap.size, 0, none⟩) n n) l := by
  subst hn
  refine ⟨Own.lit IK 3 w cs l hc (by unfold maxLen; omega), fun g hg => ?_, hk.alloc _⟩
  have e : w.heap.size = g := by simpa [Value.ownBlock] using hg
  have := hk.size; omega
set_option maxRecDepth 100000 in
theorem cells_any {p ph ps : Nat} {pa : Option Nat} {V : Value} {R : Rob} {w : World} (h : RobS p ph ps pa V R w) : Calls Tryz.prog 54 #[.pointer (some ⟨p, 0, none⟩)] w (CellsR (cellsL R) w) := by
  obtain ⟨c0, c1, c2, c3, c4, c5, c6, c7, c8⟩ := h.cells
  have B := Lib.hid h.blk
  clear h c0 c3 c4 c5 c6 c7 c8
  by_cases h1 : R.to_ = -1
  · have HC := Lib.hid (show cellsL R = [R.cell] by unfold cellsL; rw [if_pos (.inl h1)])
    have h1b : (R.to_ == -1) = true := by rw [h1]; rfl
    clear h1
    go_enter Tryz.func54, Tryz.ntmps54
    go_wp2
    go_quiet (fail)
    have c1' : (w.drewN nq).cell? ⟨p, 1, none⟩ = some (.int .i64 R.cell) := c1
    go_wp2
    go_ret
    exact ⟨_, rfl, by rw [HC.out]; exact int_new (w.drewN nq) w [.int .i64 R.cell] [R.cell] rfl (by simp) ((Kp.refl No w).drewN nq) 1 rfl⟩
  · have h1b : (R.to_ == -1) = false := by simpa using h1
    by_cases h2 : R.to_ = R.cell
    · have HC := Lib.hid (show cellsL R = [R.cell] by unfold cellsL; rw [if_pos (.inr h2)])
      have h2b : (R.to_ == R.cell) = true := by rw [h2]; simp
      clear h1 h2
      go_enter Tryz.func54, Tryz.ntmps54
      go_wp2
      go_quiet (fail)
      have c1' : (w.drewN nq).cell? ⟨p, 1, none⟩ = some (.int .i64 R.cell) := c1
      go_wp2
      go_ret
      exact ⟨_, rfl, by rw [HC.out]; exact int_new (w.drewN nq) w [.int .i64 R.cell] [R.cell] rfl (by simp) ((Kp.refl No w).drewN nq) 1 rfl⟩
    · have HC := Lib.hid (show cellsL R = [R.cell, R.to_] by unfold cellsL; rw [if_neg (fun h => h.elim h1 h2)])
      have h2b : (R.to_ == R.cell) = false := by simpa using h2
      clear h1 h2
      go_enter Tryz.func54, Tryz.ntmps54
      go_wp2
      go_quiet (fail)
      obtain ⟨w1, hw1⟩ : ∃ w1, w1 = w.drewN nq := ⟨_, rfl⟩
      have c1' : w1.cell? ⟨p, 1, none⟩ = some (.int .i64 R.cell) := by rw [hw1]; exact c1
      have c2' : w1.cell? ⟨p, 2, none⟩ = some (.int .i64 R.to_) := by rw [hw1]; exact c2
      have K1 := Lib.hid (show Kp No w w1 by rw [hw1]; exact (Kp.refl No w).drewN nq)
      rw [← hw1]
      clear hw1 c1 c2
      go_wp2
      go_still_tail 8, (by kernel_rfl)
      change wpList _ _ _ _ _ w1.drew
      have c3' : w1.drew.cell? ⟨p, 1, none⟩ = some (.int .i64 R.cell) := c1'
      have c4' : w1.drew.cell? ⟨p, 2, none⟩ = some (.int .i64 R.to_) := c2'
      go_wp2
      go_ret
      exact ⟨_, rfl, by rw [HC.out]; exact int_new w1.drew w [.int .i64 R.cell, .int .i64 R.to_] [R.cell, R.to_] rfl (by simp) K1.out.drew 2 rfl⟩
end Go.Proofs.YtfpikgkbccgchaaGreatDoor

namespace Go.Proofs.YtfpikgkbccgchaaGreatDoor
set_option linter.unusedVariables false
set_option linter.unusedSimpArgs false
open Go.RowKit

theorem in_any (n m : Int) (w : World) (b : Bool) (hb : b = (decide (0 ≤ n) && decide (n ≤ m))) : Calls Tryz.prog 114 #[.int .i64 n, .int .i64 m] w fun e w' => e = .returned (.bool b) ∧ w = w' := by
  by_cases h : 0 ≤ n
  · by_cases h2 : n ≤ m
    · obtain rfl : b = true := by rw [hb]; simp [h, h2]
      clear hb
      go_enter Tryz.func114, Tryz.ntmps114
      go_wp2
      go_ret
      exact ⟨rfl, rfl⟩
    · obtain rfl : b = false := by rw [hb]; simp [h2]
      clear hb
      go_enter Tryz.func114, Tryz.ntmps114
      go_wp2
      go_ret
      exact ⟨rfl, rfl⟩
  · obtain rfl : b = false := by rw [hb]; simp [h]
    clear hb
    go_enter Tryz.func114, Tryz.ntmps114
    go_wp2
    go_ret
    exact ⟨rfl, rfl⟩

set_option maxRecDepth 100000 in
theorem layAct_bad (k : Nat) (c p : Int) (hk : k < 256) (w : World) (hm : mayA k c p = false) : Calls Tryz.prog 70 #[.agg #[.int .u8 (k : Int), .int .i64 c, .int .i64 p]] w (BytesE [] 1 w) := by
  obtain ⟨b1, hb1⟩ : ∃ b1, b1 = (decide (0 ≤ c) && decide (c ≤ 255)) := ⟨_, rfl⟩
  obtain ⟨b2, hb2⟩ : ∃ b2, b2 = (decide (0 ≤ p) && decide (p ≤ 63)) := ⟨_, rfl⟩
  have g1 : b1 = (decide (0 ≤ c) && decide (c < 256)) := by rw [hb1]; congr 1; exact decide_eq_decide.2 (by omega)
  have g2 : b2 = (decide (0 ≤ p) && decide (p < 64)) := by rw [hb2]; congr 1; exact decide_eq_decide.2 (by omega)
  have hb' : (decide (1 ≤ k) && decide (k ≤ 3) && b1 && b2 && (decide (k ≠ 1) || decide (p = 0))) = false := by rw [g1, g2, ← hm]; unfold mayA; simp only [Bool.and_assoc]
  have HB1 := Lib.hid hb1; have HB2 := Lib.hid hb2
  have fin : ∀ w', w' = w.alloc (.cells #[.int .u8 (k : Int), .int .i64 c, .int .i64 p] 40) → BytesE [] 1 w (.returned (.tuple #[.slice none 0 0, .int .i64 1])) w' := by
    rintro w' rfl
    exact ⟨.slice none 0 0, rfl, (NewS.nil _ _ _).alloc _⟩
  have FIN := Lib.hid fin
  clear hm hb1 hb2 g1 g2 fin
  by_cases h1 : 1 ≤ k
  · have h1I : ¬ (k : Int) < 1 := by omega
    by_cases h2 : k ≤ 3
    · have h2I : ¬ (3 : Int) < (k : Int) := by omega
      have hb2 : (b1 && b2 && (decide (k ≠ 1) || decide (p = 0))) = false := by rw [← hb']; simp [h1, h2]
      clear hb' h1 h2
      cases b1 with
      | false =>
        clear hb2
        go_enter Tryz.func70, Tryz.ntmps70
        go_wp2_with fail
        refine (in_any c 255 _ false HB1.out).mono ?_
        rintro e w' ⟨rfl, rfl⟩
        go_wp2
        go_ret2
        exact FIN.out _ rfl
      | true =>
        cases b2 with
        | false =>
          clear hb2
          go_enter Tryz.func70, Tryz.ntmps70
          go_wp2_with fail
          refine (in_any c 255 _ true HB1.out).mono ?_
          rintro e w' ⟨rfl, rfl⟩
          go_wp2_with fail
          refine (in_any p 63 _ false HB2.out).mono ?_
          rintro e w' ⟨rfl, rfl⟩
          go_wp2
          go_ret2
          exact FIN.out _ rfl
        | true =>
          have hb3 : k = 1 ∧ p ≠ 0 := by simpa using hb2
          obtain ⟨rfl, h4⟩ := hb3
          have h4b : (p != 0) = true := by simpa using h4
          clear hb2 h4
          go_enter Tryz.func70, Tryz.ntmps70
          go_wp2_with fail
          refine (in_any c 255 _ true HB1.out).mono ?_
          rintro e w' ⟨rfl, rfl⟩
          go_wp2_with fail
          refine (in_any p 63 _ true HB2.out).mono ?_
          rintro e w' ⟨rfl, rfl⟩
          go_wp2
          go_ret2
          exact FIN.out _ rfl
    · have h2I : (3 : Int) < (k : Int) := by omega
      clear hb' h2
      go_enter Tryz.func70, Tryz.ntmps70
      go_wp2
      go_ret2
      exact FIN.out _ rfl
  · have h1I : (k : Int) < 1 := by omega
    clear hb' h1
    go_enter Tryz.func70, Tryz.ntmps70
    go_wp2
    go_ret2
    exact FIN.out _ rfl

set_option maxHeartbeats 1000000 in
set_option maxRecDepth 100000 in
theorem layAct_good (k : Nat) (c p : Nat) (w : World) (hm : mayA k (c : Int) (p : Int) = true) : Calls Tryz.prog 70 #[.agg #[.int .u8 (k : Int), .int .i64 (c : Int), .int .i64 (p : Int)]] w (BytesE (packB (actBits k c p)) 0 w) := by
  obtain ⟨m1, m2, m3, m4, m5, m6, m7⟩ := mayA_spec hm
  have h1I : ¬ (k : Int) < 1 := by omega
  have h2I : ¬ (3 : Int) < (k : Int) := by omega
  have HB1 : Hid (true = (decide (0 ≤ (c : Int)) && decide ((c : Int) ≤ 255))) := Lib.hid (by simp; omega)
  have HB2 : Hid (true = (decide (0 ≤ (p : Int)) && decide ((p : Int) ≤ 63))) := Lib.hid (by simp; omega)
  have hcl : (c : Int) < 256 := m4
  have hpl : (p : Int) < 64 := m6
  have hkl : (k : Int) < 4 := by omega
  have hcase : ((k : Int) == 1) = false ∨ (((k : Int) == 1) = true ∧ ((p : Int) != 0) = false) := by
    by_cases z : k = 1
    · exact .inr ⟨by simp [z], by have := m7 z; simp; omega⟩
    · exact .inl (by simp; omega)
  have BX := Lib.hid (blk_new w (.cells #[.int .u8 (k : Int), .int .i64 (c : Int), .int .i64 (p : Int)] 40))
  clear hm m1 m2 m3 m4 m5 m6 m7
  rcases hcase with z1 | ⟨z1, z2⟩
  all_goals
    go_enter Tryz.func70, Tryz.ntmps70
    go_wp2_with fail
    refine (in_any _ 255 _ true HB1.out).mono ?_
    rintro e w' ⟨rfl, rfl⟩
    go_wp2_with fail
    refine (in_any _ 63 _ true HB2.out).mono ?_
    rintro e w' ⟨rfl, rfl⟩
    go_wp2_with fail
    refine (rbits_any _ k 2 (by omega) (by decide) _ _ rfl rfl).mono ?_
    rintro e w1 ⟨v1, rfl, k1⟩
    obtain ⟨A1, c1, rfl⟩ := k1.own.rd.shape
    have B1 := Lib.hid (k1.kp.blk BX.out (no_no _))
    have K1 := Lib.hid k1
    have x1 : w1.cell? ⟨w.heap.size, 1, none⟩ = some (.int .i64 (c : Int)) := (blk_cell B1.out 1).trans rfl
    clear k1
    go_wp2_with fail
    refine (rbits_any w1 c 8 (by omega) (by decide) _ _ rfl rfl).mono ?_
    rintro e w2 ⟨v2, rfl, k2⟩
    obtain ⟨A2, c2, rfl⟩ := k2.own.rd.shape
    have B2 := Lib.hid (k2.kp.blk B1.out (no_no _))
    have K2 := Lib.hid k2
    clear k2
    go_wp2_with (at_builtin; refine wpl_append elQ rfl (.tmp 39) (.tmp 43) rfl rfl rfl (K1.out.own.kpNo K2.out.kp) K2.out.own.rd ?c3 ?c4 ?c5)
    case c3 => unfold maxLen; simp [nbits_len]
    case c4 => simp [nbits_len]
    case c5 =>
      intro v3 w3 m1 m2 m3
      obtain ⟨A3, c3, rfl⟩ := m1.rd.shape
      have N3 := Lib.hid (K1.out.app K2.out.kp m1 m2 m3 K2.out.kp.size)
      have B3 := Lib.hid (m2.blk B2.out (fun e => by have h := K1.out.ge _ e; simp at h; omega))
      have x2 : w3.cell? ⟨w.heap.size, 2, none⟩ = some (.int .i64 (p : Int)) := (blk_cell B3.out 2).trans rfl
      clear m1 m2 m3
      go_wp2_with fail
      refine (rbits_any w3 p 6 (by omega) (by decide) _ _ rfl rfl).mono ?_
      rintro e w4 ⟨v4, rfl, k4⟩
      obtain ⟨A4, c4, rfl⟩ := k4.own.rd.shape
      have K4 := Lib.hid k4
      clear k4
      go_wp2_with (at_builtin; refine wpl_append elQ rfl (.tmp 45) (.tmp 49) rfl rfl rfl (N3.out.own.kpNo K4.out.kp) K4.out.own.rd ?c6 ?c7 ?c8)
      case c6 => unfold maxLen; simp [nbits_len]
      case c7 => simp [nbits_len]
      case c8 =>
        intro v5 w5 m1 m2 m3
        obtain ⟨A5, c5, rfl⟩ := m1.rd.shape
        have N5 := Lib.hid (N3.out.app K4.out.kp m1 m2 m3 K4.out.kp.size)
        clear m1 m2 m3
        go_wp2_with fail
        refine (rbytes_any N5.out.own.rd (by simp [nbits_len])).mono ?_
        rintro e w6 ⟨v6, rfl, k6⟩
        obtain ⟨A6, c6, rfl⟩ := k6.own.rd.shape
        have K6 := Lib.hid k6
        clear k6
        go_wp2
        go_ret2
        exact ⟨_, rfl, K6.out.own, fun g hg => Nat.le_trans (((Kp.refl No w).alloc _).trans N5.out.kp).size (K6.out.ge g hg), (((Kp.refl No w).alloc _).trans N5.out.kp).trans K6.out.kp⟩

theorem layAct_any (k : Nat) (c p : Int) (hk : k < 256) (w : World) : Calls Tryz.prog 70 #[.agg #[.int .u8 (k : Int), .int .i64 c, .int .i64 p]] w (BytesE (layA k c p) (layAE k c p) w) := by
  cases hm : mayA k c p
  · have h1 : layA k c p = [] := by unfold layA; rw [hm]; rfl
    have h2 : layAE k c p = 1 := by unfold layAE; rw [hm]; rfl
    rw [h1, h2]; exact layAct_bad k c p hk w hm
  · obtain ⟨m1, m2, m3, m4, m5, m6, m7⟩ := mayA_spec hm
    obtain ⟨C, rfl⟩ := Int.eq_ofNat_of_zero_le m3
    obtain ⟨P, rfl⟩ := Int.eq_ofNat_of_zero_le m5
    have h1 : layA k (C : Int) (P : Int) = packB (actBits k C P) := by unfold layA; rw [hm, if_pos rfl]; rfl
    have h2 : layAE k (C : Int) (P : Int) = 0 := by unfold layAE; rw [hm]; rfl
    rw [h1, h2]; exact layAct_good k C P w hm
end Go.Proofs.YtfpikgkbccgchaaGreatDoor
