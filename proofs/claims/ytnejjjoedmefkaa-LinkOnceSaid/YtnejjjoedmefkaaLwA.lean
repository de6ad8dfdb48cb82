/- The laws of link: same, LinkLays, LinkTakes. -/
import Derived.Test.YtnejjjoedmefkaaShn
import Derived.Test.YtnejjjoedmefkaaTakR
namespace Go.Proofs.Ytnejjjoedmefkaa
set_option linter.unusedVariables false
set_option linter.unusedSimpArgs false
open Go.RowKit

def sameP (a b : Bool) (n m : Nat) (l l' : List Nat) : Bool := decide (a = b) && decide (n = m) && decide (l = l')
set_option maxRecDepth 100000 in
theorem same_any {w : World} {v v' : Value} {l l' : List Nat} (hv : Rd BK w v l) (hv' : Rd BK w v' l') (hx : ∀ x ∈ l, x < 256) (hx' : ∀ x ∈ l', x < 256) (a b : Bool) (n m : Nat) :
    Calls Try.prog 15 #[.agg #[.bool a, .int .u64 (n : Int), v], .agg #[.bool b, .int .u64 (m : Int), v']] w fun e w' => e = .returned (.bool (sameP a b n m l l')) ∧ Kp No w w' := by
  have hst := fun o o' => ((hv.alloc o).alloc o').str
  have hst' := fun o o' => ((hv'.alloc o).alloc o').str
  obtain ⟨A, cap, rfl⟩ := hv.shape
  obtain ⟨A', cap', rfl⟩ := hv'.shape
  obtain ⟨c1, h1⟩ : ∃ c1, c1 = (a == b) := ⟨_, rfl⟩
  obtain ⟨c2, h2⟩ : ∃ c2, c2 = ((n : Int) == (m : Int)) := ⟨_, rfl⟩
  obtain ⟨c3, h3⟩ : ∃ c3, c3 = decide (l = l') := ⟨_, rfl⟩
  have q1 := h1.symm; have q2 := h2.symm
  have q3 := strB_beq hx hx'
  rw [← h3] at q3
  have hr : sameP a b n m l l' = (c1 && c2 && c3) := by
    unfold sameP
    rw [h1, h2, h3]
    by_cases e : n = m
    · simp [e]; cases a <;> cases b <;> simp
    · have : (n : Int) ≠ (m : Int) := by omega
      simp [e, this]
  have HR := Lib.hid hr
  clear hr h1 h2 h3 hx hx' hv hv'
  cases c1
  · go_enter Try.func15, Try.ntmps15
    go_wp2
    go_ret
    exact ⟨by rw [HR.out]; rfl, ((Kp.refl _ _).alloc _).alloc _⟩
  · cases c2
    · go_enter Try.func15, Try.ntmps15
      go_wp2
      go_ret
      exact ⟨by rw [HR.out]; rfl, ((Kp.refl _ _).alloc _).alloc _⟩
    · go_enter Try.func15, Try.ntmps15
      go_wp2
      go_ret
      exact ⟨by rw [HR.out]; rfl, ((Kp.refl _ _).alloc _).alloc _⟩

def LawR (w : World) (e : Ending) (w' : World) : Prop := e = .returned (.bool true) ∧ Kp No w w'

set_option maxRecDepth 100000 in
theorem lays_any {w : World} {v : Value} {d : List Nat} (hv : Rd BK w v d) (h : Bool) (n : Nat) (hn : n < 18446744073709551616) (hdx : ∀ x ∈ d, x < 256) : Calls Try.prog 3 #[.agg #[.bool h, .int .u64 (n : Int), v]] w (LawR w) := by
  obtain ⟨A, cap, rfl⟩ := hv.shape
  have H := Lib.hid hv; have HX := Lib.hid hdx; have HN := Lib.hid hn
  have HBX := Lib.hid (blk_new w (.cells #[.bool h, .int .u64 (n : Int), .slice A d.length cap] 25))
  clear hv hdx hn
  by_cases c : 2000 < d.length
  · have cI : (2000 : Int) < (d.length : Int) := by omega
    go_enter Try.func3, Try.ntmps3
    go_wp2_with fail
    refine (shown14 _).mono ?_
    rintro e w1 ⟨rfl, k1⟩
    have b2 : w1.cell? ⟨w.heap.size, 2, none⟩ = some (.slice A d.length cap) := (blk_cell (k1.blk HBX.out (no_no _)) 2).trans rfl
    have K1 := Lib.hid k1
    clear k1
    go_wp2
    go_ret
    exact ⟨rfl, ((Kp.refl _ _).alloc _).trans K1.out⟩
  · have cI : ¬ (2000 : Int) < (d.length : Int) := by omega
    go_enter Try.func3, Try.ntmps3
    go_wp2_with fail
    refine (shown14 _).mono ?_
    rintro e w1 ⟨rfl, k1⟩
    have B1 := k1.blk HBX.out (no_no _)
    have b0 : w1.cell? ⟨w.heap.size, 0, none⟩ = some (.bool h) := (blk_cell B1 0).trans rfl
    have b1 : w1.cell? ⟨w.heap.size, 1, none⟩ = some (.int .u64 (n : Int)) := (blk_cell B1 1).trans rfl
    have b2 : w1.cell? ⟨w.heap.size, 2, none⟩ = some (.slice A d.length cap) := (blk_cell B1 2).trans rfl
    have K1 := Lib.hid (((Kp.refl No w).alloc _).trans k1)
    have BB := Lib.hid B1
    clear k1 B1
    go_wp2_with fail
    refine (lay_any (H.out.kpNo K1.out) h n HN.out HX.out).mono ?_
    rintro e w2 ⟨v2, rfl, k2⟩
    obtain ⟨A2, c2, rfl⟩ := k2.own.rd.shape
    have B2 := k2.kp.blk BB.out (no_no _)
    have d0 : w2.cell? ⟨w.heap.size, 0, none⟩ = some (.bool h) := (blk_cell B2 0).trans rfl
    have d1 : w2.cell? ⟨w.heap.size, 1, none⟩ = some (.int .u64 (n : Int)) := (blk_cell B2 1).trans rfl
    have d2 : w2.cell? ⟨w.heap.size, 2, none⟩ = some (.slice A d.length cap) := (blk_cell B2 2).trans rfl
    have K2 := Lib.hid k2
    clear k2 B2
    go_wp2_with fail
    refine (rlay_any (H.out.kpNo (K1.out.trans K2.out.kp)) h n HN.out HX.out).mono ?_
    rintro e w3 ⟨v3, rfl, k3⟩
    obtain ⟨A3, c3, rfl⟩ := k3.own.rd.shape
    have hst2 := (K2.out.own.rd.kpNo k3.kp).str
    have hst3 := k3.own.rd.str
    have K3 := Lib.hid k3
    clear k3
    go_wp2
    go_ret
    exact ⟨rfl, (K1.out.trans K2.out.kp).trans K3.out.kp⟩

theorem tkD_lt (f : List Nat) : ∀ x ∈ tkD f, x < 256 := by
  unfold tkD
  split
  · exact dataP_lt _ _ _
  · intro x hx; simp at hx

set_option maxRecDepth 100000 in
theorem takes_any {w : World} {v : Value} {f : List Nat} (hv : Rd BK w v f) (hx : ∀ x ∈ f, x < 256) : Calls Try.prog 4 #[v] w (LawR w) := by
  obtain ⟨A, cap, rfl⟩ := hv.shape
  have H := Lib.hid hv; have HX := Lib.hid hx
  clear hv hx
  by_cases c : 2000 < f.length
  · have cI : (2000 : Int) < (f.length : Int) := by omega
    go_enter Try.func4, Try.ntmps4
    go_wp2_with fail
    refine (shown14 _).mono ?_
    rintro e w1 ⟨rfl, k1⟩
    have K1 := Lib.hid k1
    clear k1
    go_wp2
    go_ret
    exact ⟨rfl, K1.out⟩
  · have cI : ¬ (2000 : Int) < (f.length : Int) := by omega
    have hl : f.length ≤ 1000000 := by omega
    have hsm : sameP (tkH f) (tkH f) (tkN f) (tkN f) (tkD f) (tkD f) = true := by simp [sameP]
    have HS := Lib.hid hsm
    clear hsm
    go_enter Try.func4, Try.ntmps4
    go_wp2_with fail
    refine (shown14 _).mono ?_
    rintro e w1 ⟨rfl, k1⟩
    have K1 := Lib.hid k1
    clear k1
    go_wp2_with fail
    refine (take_any (H.out.kpNo K1.out) hl HX.out).mono ?_
    rintro e w2 ⟨v2, rfl, k2⟩
    obtain ⟨A2, c2, rfl⟩ := k2.own.rd.shape
    have K2 := Lib.hid k2
    have k20 := (K1.out.trans k2.kp).alloc (.cells #[.bool (tkH f), .int .u64 (tkN f : Int), .slice A2 (tkD f).length c2] 25)
    have B2 := Lib.hid (blk_new w2 (.cells #[.bool (tkH f), .int .u64 (tkN f : Int), .slice A2 (tkD f).length c2] 25))
    have KK2 := Lib.hid k20
    clear k2 k20
    go_wp2_with fail
    refine (rtake_any (H.out.kpNo KK2.out) hl HX.out).mono ?_
    rintro e w3 ⟨v3, rfl, k3⟩
    obtain ⟨A3, c3, rfl⟩ := k3.own.rd.shape
    have B3 := k3.kp.blk B2.out (no_no _)
    have p0 : ∀ o, (w3.alloc o).cell? ⟨w2.heap.size, 0, none⟩ = some (.bool (tkH f)) := fun o => (blk_cell (blk_alloc B3 o) 0).trans rfl
    have p1 : ∀ o, (w3.alloc o).cell? ⟨w2.heap.size, 1, none⟩ = some (.int .u64 (tkN f : Int)) := fun o => (blk_cell (blk_alloc B3 o) 1).trans rfl
    have p2 : ∀ o, (w3.alloc o).cell? ⟨w2.heap.size, 2, none⟩ = some (.slice A2 (tkD f).length c2) := fun o => (blk_cell (blk_alloc B3 o) 2).trans rfl
    have K3 := Lib.hid k3
    clear k3 B3
    go_wp2_with fail
    refine (same_any (((K2.out.own.rd.alloc _).kpNo K3.out.kp).alloc _) (K3.out.own.rd.alloc _) (tkD_lt f) (tkD_lt f) (tkH f) (tkH f) (tkN f) (tkN f)).mono ?_
    rintro e w4 ⟨rfl, k4⟩
    rw [HS.out]
    have K4 := Lib.hid k4
    clear k4
    go_wp2
    go_ret
    exact ⟨rfl, ((KK2.out.trans K3.out.kp).alloc _).trans K4.out⟩
end Go.Proofs.Ytnejjjoedmefkaa
