/- A block that holds just a list of one-cell elements; make; path, memory: a plan; path.of; path: (*plan).steps; Heaps, plain: entries, what is ahead, up and down. No function of the program; path, plain: the search by the heap. No function of the program; Heaps in memory; heap: swap, up; heap: up, Push; The step law of append, for a region that draws its order; heap.Push; heap: down. No condition. -/
import Derived.Test.YtgdokpfepfmbmaaDoorM4
import Derived.Laws.MakeOwn
import Derived.Deep.RegionLaw
import Derived.Deep.CutBlock
import Derived.Deep.DeepCutAuto
import Derived.Deep.Cut
import Derived.Deep.CutRange
import Derived.Test.YtgdokpfepfmbmaaDoorM1
import Derived.Test.YtgdokpfepfmbmaaDoorM2
import Derived.Test.YtgdokpfepfmbmaaDoorM3
import Derived.BigRegion
import Derived.ChangeAlike
import Derived.Deep.RegionHeld3
import Derived.Deep.LoopGhost

namespace Go.Proofs.YtgdokpfepfmbmaaDoor
set_option linter.unusedVariables false
set_option linter.unusedSimpArgs false
open Go.RowKit

/-- Block g holds just these elements. -/
def Blk {α : Type} (enc : α → Value) (e : TypeId) (w : World) (g : Nat) (l : List α) : Prop := w.heap[g]? = some (.cells (l.map enc).toArray e (0, 0))
section
variable {α : Type} {enc : α → Value} {e : TypeId} {w w' : World} {g : Nat} {l : List α}
theorem Blk.get (h : Blk enc e w g l) {i : Nat} {x : α} (hx : l[i]? = some x) : w.cell? ⟨g, i, none⟩ = some (enc x) := (blk_cell h i).trans (by simp [hx])
theorem Blk.free (h : Blk enc e w g l) (i : Nat) : w.frozen? ⟨g, i, none⟩ = false := blk_free h i
theorem Blk.set (h : Blk enc e w g l) (i : Nat) (x : α) : Blk enc e (w.setCell ⟨g, i, none⟩ (enc x)) g (l.set i x) := by
  have := blk_set h i (enc x)
  unfold Blk
  rw [this, List.setIfInBounds_toArray, List.map_set]
theorem Blk.kp {S : Nat → Prop} (h : Blk enc e w g l) (hk : Kp S w w') (hn : ¬ S g) : Blk enc e w' g l := hk.blk h hn
theorem Blk.kpNo (h : Blk enc e w g l) (hk : Kp No w w') : Blk enc e w' g l := hk.blk h (no_no _)
theorem Blk.lt (h : Blk enc e w g l) : g < w.heap.size := lt_of_block h
theorem Blk.alloc (h : Blk enc e w g l) (o : Obj) : Blk enc e (w.alloc o) g l := blk_alloc h o
theorem Blk.far (h : Blk enc e w g l) {p : Addr} (hp : g ≠ p.block) (u : Value) : Blk enc e (w.setCell p u) g l := blk_far h hp u
end
/-- A kind of one cell. -/
structure K1 {α : Type} (K : Kd α) (enc : α → Value) : Prop where
  sz : K.sz = 1
  enc : ∀ x, K.enc x = [enc x]
theorem K1.encs {α : Type} {K : Kd α} {enc : α → Value} (h : K1 K enc) (l : List α) : K.encs l = l.map enc := by
  unfold Kd.encs
  induction l with
  | nil => rfl
  | cons a l ih => rw [List.flatMap_cons, h.enc, ih]; rfl
theorem Blk.rd {α : Type} {K : Kd α} {enc : α → Value} (hK : K1 K enc) {e : TypeId} {w : World} {g : Nat} {l : List α} (h : Blk enc e w g l) (cap : Nat) (hc : l.length ≤ cap) (hm : cap ≤ maxLen) : Rd K w (.slice (some ⟨g, 0, none⟩) l.length cap) l :=
  .inr ⟨g, 0, cap, rfl, hc, hm, fun j u hu => by
    rw [hK.encs, List.getElem?_map] at hu
    rw [Nat.zero_add, blk_cell h j, ← hu]
    simp⟩
theorem Blk.ownB {α : Type} {K : Kd α} {enc : α → Value} (hK : K1 K enc) {e : TypeId} {w : World} {g : Nat} {l : List α} (h : Blk enc e w g l) : OwnB K e w g l.length l :=
  ⟨_, h, Nat.le_refl _, by simp [hK.sz], by rw [hK.sz, hK.encs]; simp [List.take_of_length_le]⟩
theorem IK1 : K1 IK (Value.int .i64) := ⟨rfl, fun _ => rfl⟩
theorem run_mk {α : Type} {K : Kd α} {enc : α → Value} {P : Program} {t e : TypeId} {bytes : Nat} (E : ElT P t e K bytes) (hK : K1 K enc) (z0 : α) (hz : ∀ z, (P.info? e).bind (·.zero) = some z → z = enc z0) (ho : (enc z0).cells = #[enc z0]) (n : Nat) (hn : n ≤ 1000000) (hb : bytes ≤ 1000) (w : World) :
    (Instr.makeSlice t (.int .i64 (n : Int)) (.int .i64 (n : Int))).run P w = .ok (.slice (some ⟨w.heap.size, 0, none⟩) n n) (w.alloc (.cells ((List.replicate n z0).map enc).toArray e)) := by
  obtain ⟨ht, i, z, hi', hz', hsize, hby, hzs⟩ := E
  have hzz := hz z (by simp [hi', hz'])
  have hbb : i.bytes * n ≤ 1000 * 1000000 := Nat.mul_le_mul (by omega) hn
  have h1 : (i.bytes : Int) * (n : Int) ≤ 281474976710656 := by
    have : ((i.bytes * n : Nat) : Int) ≤ 281474976710656 := by omega
    rwa [Int.natCast_mul] at this
  have := run_make (P := P) w t e i z ht hi' hz' .i64 .i64 (n : Int) n (by omega) (Int.le_refl _) h1 (by omega)
  simp only [Int.toNat_natCast] at this
  rw [this]
  have hc : madeCells z.cells (n * i.size) = ((List.replicate n z0).map enc).toArray := by
    rw [hsize, hK.sz, Nat.mul_one, hzz, ho]
    apply Array.ext
    · simp [madeCells]
    · intro j h1 h2; simp [madeCells, Nat.mod_one]
  rw [hc]
/-- A bool's cell. -/
def BoK : Kd Bool := { sz := 1, enc := fun x => [.bool x], len := fun _ => rfl, one := by intro a v hv; simp at hv; subst hv; rfl, pos := by decide }
theorem BoK1 : K1 BoK Value.bool := ⟨rfl, fun _ => rfl⟩
theorem elBo : ElT Tryd.prog 34 4 BoK 1 := ElT.of (z := .bool false) (by kernel_rfl) (by kernel_rfl) rfl
theorem run_mkBo (n : Nat) (hn : n ≤ 1000000) (w : World) : (Instr.makeSlice 34 (.int .i64 (n : Int)) (.int .i64 (n : Int))).run Tryd.prog w = .ok (.slice (some ⟨w.heap.size, 0, none⟩) n n) (w.alloc (.cells ((List.replicate n false).map Value.bool).toArray 4)) :=
  run_mk elBo BoK1 false (fun z hz => by have h : (Tryd.prog.info? 4).bind (·.zero) = some (.bool false) := by kernel_rfl
                                         rw [h] at hz; cases hz; rfl) rfl n hn (by decide) w
end Go.Proofs.YtgdokpfepfmbmaaDoor

namespace Go.Proofs.YtgdokpfepfmbmaaDoor
set_option linter.unusedVariables false
set_option linter.unusedSimpArgs false
open Go.RowKit

abbrev SlC := Option Addr × Nat × Nat
def slv (x : SlC) : Value := .slice x.1 x.2.1 x.2.2
/-- A slice's cell. -/
def SvK : Kd SlC := { sz := 1, enc := fun x => [slv x], len := fun _ => rfl, one := by intro a v hv; simp at hv; subst hv; rfl, pos := by decide }
theorem SvK1 : K1 SvK slv := ⟨rfl, fun _ => rfl⟩
theorem elSv : ElT Tryd.prog 33 39 SvK 24 := ElT.of (z := .slice none 0 0) (by kernel_rfl) (by kernel_rfl) rfl
theorem run_mkSv (n : Nat) (hn : n ≤ 1000000) (w : World) : (Instr.makeSlice 33 (.int .i64 (n : Int)) (.int .i64 (n : Int))).run Tryd.prog w = .ok (.slice (some ⟨w.heap.size, 0, none⟩) n n) (w.alloc (.cells ((List.replicate n (none, 0, 0)).map slv).toArray 39)) :=
  run_mk elSv SvK1 (none, 0, 0) (fun z hz => by have h : (Tryd.prog.info? 39).bind (·.zero) = some (.slice none 0 0) := by kernel_rfl
                                                rw [h] at hz; cases hz; rfl) rfl n hn (by decide) w

noncomputable def ptOk (f : Flr) (from_ : Int) : Bool := decide (0 ≤ from_) && decide (from_ < f.s.size) && rightB f && (bt f.s from_.toNat != 35)
def blkB (n : Nat) (B : List Int) : List Bool := (List.range n).map fun (i : Nat) => decide ((i : Int) ∈ B)
def lnB (f : Flr) (n k : Nat) : List Bool := (List.range n).map fun i => decide (i < k ∧ kdS f.s i = 2)
theorem blkB_len (n : Nat) (B : List Int) : (blkB n B).length = n := by simp [blkB]
theorem lnB_len (f : Flr) (n k : Nat) : (lnB f n k).length = n := by simp [lnB]
theorem blkB_get {n : Nat} {B : List Int} {i : Nat} (h : i < n) : (blkB n B)[i]? = some (decide ((i : Int) ∈ B)) := by simp [blkB, List.getElem?_range h]
theorem lnB_get {f : Flr} {n k i : Nat} (h : i < n) : (lnB f n k)[i]? = some (decide (i < k ∧ kdS f.s i = 2)) := by simp [lnB, List.getElem?_range h]
theorem blkB_none (n : Nat) : blkB n [] = List.replicate n false := by
  apply List.ext_getElem?
  intro i
  rcases Nat.lt_or_ge i n with h | h
  · rw [blkB_get h, List.getElem?_replicate, if_pos h]; simp
  · rw [List.getElem?_eq_none (by rw [blkB_len]; exact h), List.getElem?_eq_none (by simpa using h)]
theorem lnB_none (f : Flr) (n : Nat) : lnB f n 0 = List.replicate n false := by
  apply List.ext_getElem?
  intro i
  rcases Nat.lt_or_ge i n with h | h
  · rw [lnB_get h, List.getElem?_replicate, if_pos h]; simp
  · rw [List.getElem?_eq_none (by rw [lnB_len]; exact h), List.getElem?_eq_none (by simpa using h)]
theorem lnB_succ {f : Flr} {n k : Nat} (h : k < n) : (lnB f n k).set k (decide (kdS f.s k = 2)) = lnB f n (k + 1) := by
  apply List.ext_getElem?
  intro i
  rw [List.getElem?_set, lnB_len]
  rcases Nat.lt_or_ge i n with h2 | h2
  · rw [lnB_get h2, lnB_get h2]
    by_cases e : k = i
    · subst e; simp [h]
    · rw [if_neg e]; congr 1; rw [decide_eq_decide]; omega
  · rw [List.getElem?_eq_none (by rw [lnB_len]; exact h2), List.getElem?_eq_none (by rw [lnB_len]; exact h2), if_neg (by omega)]
theorem blkB_in {n : Nat} {B : List Int} {j b : Nat} (hx : B[j]? = some (b : Int)) (h : b < n) : blkB n (B.take (j + 1)) = (blkB n (B.take j)).set b true := by
  apply List.ext_getElem?
  intro i
  rw [List.getElem?_set, blkB_len, List.take_add_one, hx]
  rcases Nat.lt_or_ge i n with h2 | h2
  · rw [blkB_get h2, blkB_get h2]
    by_cases e : b = i
    · subst e; simp [h]
    · rw [if_neg e]; congr 1; simp; intro e2; omega
  · rw [List.getElem?_eq_none (by rw [blkB_len]; exact h2), List.getElem?_eq_none (by rw [blkB_len]; exact h2), if_neg (by omega)]
theorem blkB_out {n : Nat} {B : List Int} {j : Nat} {x : Int} (hx : B[j]? = some x) (h : x < 0 ∨ (n : Int) ≤ x) : blkB n (B.take (j + 1)) = blkB n (B.take j) := by
  apply List.ext_getElem?
  intro i
  rw [List.take_add_one, hx]
  rcases Nat.lt_or_ge i n with h2 | h2
  · rw [blkB_get h2, blkB_get h2]
    congr 1; simp; intro e2; omega
  · rw [List.getElem?_eq_none (by rw [blkB_len]; exact h2), List.getElem?_eq_none (by rw [blkB_len]; exact h2)]

/-- The lists of what is near, up to the k-th. -/
structure NrT (f : Flr) (w0 : World) (g1 k : Nat) (Vs : List SlC) (w : World) : Prop where
  bl : Blk slv 39 w g1 Vs
  len : Vs.length = f.s.size
  rd : ∀ (i : Nat) v, i < k → Vs[i]? = some v → Rd IK w (slv v) (ints (nearP f i)) ∧ ∀ g, (slv v).ownBlock = some g → w0.heap.size ≤ g
theorem NrT.no {f : Flr} {w0 w w' : World} {g1 k : Nat} {Vs : List SlC} (h : NrT f w0 g1 k Vs w) (hk : Kp No w w') : NrT f w0 g1 k Vs w' :=
  ⟨h.bl.kpNo hk, h.len, fun i v hi hv => ⟨(h.rd i v hi hv).1.kpNo hk, (h.rd i v hi hv).2⟩⟩
theorem NrT.kp {S : Nat → Prop} {f : Flr} {w0 w w' : World} {g1 k : Nat} {Vs : List SlC} (h : NrT f w0 g1 k Vs w) (hk : Kp S w w') (h1 : ¬ S g1) (h2 : ∀ j, S j → j < w0.heap.size) : NrT f w0 g1 k Vs w' :=
  ⟨h.bl.kp hk h1, h.len, fun i v hi hv => ⟨(h.rd i v hi hv).1.kp hk (fun g hg hs => by have := (h.rd i v hi hv).2 g hg; have := h2 g hs; omega), (h.rd i v hi hv).2⟩⟩
theorem NrT.put {f : Flr} {w0 w : World} {g1 k : Nat} {Vs : List SlC} (h : NrT f w0 g1 k Vs w) (hg : g1 < w0.heap.size) (hk : k < f.s.size) (x : SlC) (hr : Rd IK w (slv x) (ints (nearP f k))) (hb : ∀ g, (slv x).ownBlock = some g → w0.heap.size ≤ g) :
    NrT f w0 g1 (k + 1) (Vs.set k x) (w.setCell ⟨g1, k, none⟩ (slv x)) := by
  have hs := (Kp.refl (fun j => j = g1) w).setCell (p := ⟨g1, k, none⟩) (fun _ => rfl) (slv x)
  refine ⟨h.bl.set k x, by rw [List.length_set]; exact h.len, fun i v hi hv => ?_⟩
  rw [List.getElem?_set] at hv
  split at hv
  · rename_i e; subst e
    rw [if_pos (by rw [h.len]; exact hk)] at hv; cases hv
    exact ⟨hr.kp hs (fun g hg' e => by have := hb g hg'; omega), hb⟩
  · have hl : i < Vs.length := (List.getElem?_eq_some_iff.1 hv).1
    have := h.rd i v (by omega) hv
    exact ⟨this.1.kp hs (fun g hg' e => by have := this.2 g hg'; omega), this.2⟩
/-- A plan in memory. -/
structure PlW (f : Flr) (fr : Nat) (bl : List Bool) (p g1 g2 g3 : Nat) (Vs : List SlC) (w : World) : Prop where
  blk : w.heap[p]? = some (.cells #[.slice (some ⟨g1, 0, none⟩) f.s.size f.s.size, .slice (some ⟨g2, 0, none⟩) f.s.size f.s.size, .slice (some ⟨g3, 0, none⟩) f.s.size f.s.size, .int .i64 (fr : Int)] 137 (0, 0))
  nr : Blk slv 39 w g1 Vs
  ln : Blk Value.bool 4 w g2 (lnB f f.s.size f.s.size)
  bk : Blk Value.bool 4 w g3 bl
  len : Vs.length = f.s.size
  bln : bl.length = f.s.size
  rd : ∀ (i : Nat) v, Vs[i]? = some v → Rd IK w (slv v) (ints (nearP f i))
section
variable {f : Flr} {fr p g1 g2 g3 : Nat} {bl : List Bool} {Vs : List SlC} {w w' : World}
theorem PlW.no (h : PlW f fr bl p g1 g2 g3 Vs w) (hk : Kp No w w') : PlW f fr bl p g1 g2 g3 Vs w' := ⟨hk.blk h.blk (no_no _), h.nr.kpNo hk, h.ln.kpNo hk, h.bk.kpNo hk, h.len, h.bln, fun i v hv => (h.rd i v hv).kpNo hk⟩
theorem PlW.c0 (h : PlW f fr bl p g1 g2 g3 Vs w) : w.cell? ⟨p, 0, none⟩ = some (.slice (some ⟨g1, 0, none⟩) f.s.size f.s.size) := blk_cell h.blk 0
theorem PlW.c1 (h : PlW f fr bl p g1 g2 g3 Vs w) : w.cell? ⟨p, 1, none⟩ = some (.slice (some ⟨g2, 0, none⟩) f.s.size f.s.size) := blk_cell h.blk 1
theorem PlW.c2 (h : PlW f fr bl p g1 g2 g3 Vs w) : w.cell? ⟨p, 2, none⟩ = some (.slice (some ⟨g3, 0, none⟩) f.s.size f.s.size) := blk_cell h.blk 2
theorem PlW.c3 (h : PlW f fr bl p g1 g2 g3 Vs w) : w.cell? ⟨p, 3, none⟩ = some (.int .i64 (fr : Int)) := blk_cell h.blk 3
end
end Go.Proofs.YtgdokpfepfmbmaaDoor

namespace Go.Proofs.YtgdokpfepfmbmaaDoor
set_option linter.unusedVariables false
set_option linter.unusedSimpArgs false
open Go.RowKit

set_option maxHeartbeats 1000000 in
set_option maxRecDepth 100000 in
theorem ptof_no (f : Flr) (hsz : f.s.size ≤ 1000000) (fr : Int) (bv : Value) (h : ptOk f fr = false) (w : World) :
    Calls Tryd.prog 54 #[f.val, .int .i64 fr, bv] w fun e w' => e = .returned (.tuple #[.pointer none, .bool false]) ∧ Kp No w w' := by
  have HBX := Lib.hid (BxW.new f w)
  obtain ⟨n, hn⟩ : ∃ n, n = f.s.size := ⟨_, rfl⟩
  have hnI : ((f.s.size : Nat) : Int) = (n : Int) := by omega
  unfold ptOk at h
  rw [← hn] at h
  by_cases h0 : fr < 0
  · have h0b : decide (fr < 0) = true := by simpa using h0
    obtain ⟨X, Y, s⟩ := f
    unfold Flr.val
    clear h hn hnI hsz
    go_enter Tryd.func54, Tryd.ntmps54
    go_wp2_with fail
    go_ret2
    exact ⟨rfl, HBX.out.kp⟩
  · have h0b : decide (fr < 0) = false := by simpa using h0
    by_cases h1 : (n : Int) ≤ fr
    · have h1b : decide ((n : Int) ≤ fr) = true := by simpa using h1
      obtain ⟨X, Y, s⟩ := f
      simp only at hnI
      unfold Flr.val
      clear h hn hsz
      go_enter Tryd.func54, Tryd.ntmps54
      go_wp2_with fail
      go_ret2
      exact ⟨rfl, HBX.out.kp⟩
    · have h1b : decide ((n : Int) ≤ fr) = false := by simpa using h1
      obtain ⟨j, rfl⟩ : ∃ j : Nat, fr = j := ⟨fr.toNat, by omega⟩
      cases hb : rightB f with
      | false =>
        have HRT := Lib.hid (right_at f (by omega) false hb)
        obtain ⟨X, Y, s⟩ := f
        simp only at hnI
        unfold Flr.val at HRT ⊢
        clear h hn hsz hb
        go_enter Tryd.func54, Tryd.ntmps54
        go_wp2_with (go_at_call 61; refine (HRT.out _).mono ?_; rintro e w1 ⟨rfl, kp1⟩; have K1 := Lib.hid kp1; clear kp1)
        go_ret2
        exact ⟨rfl, HBX.out.kp.no K1.out⟩
      | true =>
        have h35 : bt f.s j = 35 := by
          rw [hb] at h; simp at h; first | exact h | exact h (by omega) (by omega) | exact h (by omega)
        have HRT := Lib.hid (right_at f (by omega) true hb)
        have hjs : j < f.s.size := by omega
        have hbt := bt_at f.s j hjs
        rw [h35] at hbt
        obtain ⟨X, Y, s⟩ := f
        simp only at hnI hbt hjs
        have hbs : ((s[j]'hjs).toNat : Int) = 35 := by rw [hbt]; rfl
        unfold Flr.val at HRT ⊢
        clear h hn hsz hb h35
        go_enter Tryd.func54, Tryd.ntmps54
        go_wp2_with (go_at_call 61; refine (HRT.out _).mono ?_; rintro e w1 ⟨rfl, kp1⟩; have K1 := Lib.hid kp1; have hb2 : w1.cell? ⟨w.heap.size, 2, none⟩ = some (.string s) := (HBX.out.no K1.out).c2; clear kp1)
        go_ret2
        exact ⟨rfl, HBX.out.kp.no K1.out⟩

/-- Behind the makes: the plan's blocks, still empty. -/
structure OfS (f : Flr) (fr p g1 g2 g3 : Nat) (w0 w : World) : Prop where
  blk : w.heap[p]? = some (.cells #[.slice (some ⟨g1, 0, none⟩) f.s.size f.s.size, .slice (some ⟨g2, 0, none⟩) f.s.size f.s.size, .slice (some ⟨g3, 0, none⟩) f.s.size f.s.size, .int .i64 (fr : Int)] 137 (0, 0))
  nr : Blk slv 39 w g1 (List.replicate f.s.size (none, 0, 0))
  ln : Blk Value.bool 4 w g2 (List.replicate f.s.size false)
  bk : Blk Value.bool 4 w g3 (List.replicate f.s.size false)
  d12 : g1 ≠ g2
  d13 : g1 ≠ g3
  d23 : g2 ≠ g3
  d1 : g1 ≠ p
  d2 : g2 ≠ p
  d3 : g3 ≠ p
  ge : w0.heap.size ≤ g1 ∧ w0.heap.size ≤ g2 ∧ w0.heap.size ≤ g3 ∧ w0.heap.size ≤ p
  kp : Kp No w0 w
theorem blk_n1 (w : World) (o1 o2 : Obj) : ((w.alloc o1).alloc o2).heap[w.heap.size + 1]? = some o2 := by have := blk_new (w.alloc o1) o2; simpa using this
theorem blk_n2 (w : World) (o1 o2 o3 : Obj) : (((w.alloc o1).alloc o2).alloc o3).heap[w.heap.size + 1 + 1]? = some o3 := by have := blk_new ((w.alloc o1).alloc o2) o3; simpa using this
theorem ofS_mk {f : Flr} {fr n : Nat} (hn : n = f.s.size) {w0 wa : World} {p g1 g2 g3 : Nat} (h1 : wa.heap[g1]? = some (.cells (Array.replicate n (slv (none, 0, 0))) 39 (0, 0))) (h2 : wa.heap[g2]? = some (.cells (Array.replicate n (.bool false)) 4 (0, 0))) (h3 : wa.heap[g3]? = some (.cells (Array.replicate n (.bool false)) 4 (0, 0)))
    (d : g1 ≠ g2 ∧ g1 ≠ g3 ∧ g2 ≠ g3) (kp : Kp No w0 wa) (hge : w0.heap.size ≤ g1 ∧ w0.heap.size ≤ g2 ∧ w0.heap.size ≤ g3) (hp : p = wa.heap.size) :
    OfS f fr p g1 g2 g3 w0 (wa.alloc (.cells #[.slice (some ⟨g1, 0, none⟩) n n, .slice (some ⟨g2, 0, none⟩) n n, .slice (some ⟨g3, 0, none⟩) n n, .int .i64 (fr : Int)] 137)).drew := by
  subst hn hp
  have l1 := lt_of_block h1; have l2 := lt_of_block h2; have l3 := lt_of_block h3
  have := kp.size
  refine ⟨blk_new _ _, blk_alloc (h1.trans (by simp)) _, blk_alloc (h2.trans (by simp)) _, blk_alloc (h3.trans (by simp)) _, d.1, d.2.1, d.2.2, ?_, ?_, ?_, ⟨hge.1, hge.2.1, hge.2.2, this⟩, (kp.alloc _).drew⟩ <;> omega
/-- In the first loop: k cells are done; what is near is laid for m of them. -/
structure LpS (f : Flr) (fr p g1 g2 g3 m k bf : Nat) (Vs : List SlC) (w0 wA w : World) : Prop where
  blk : w.heap[p]? = some (.cells #[.slice (some ⟨g1, 0, none⟩) f.s.size f.s.size, .slice (some ⟨g2, 0, none⟩) f.s.size f.s.size, .slice (some ⟨g3, 0, none⟩) f.s.size f.s.size, .int .i64 (fr : Int)] 137 (0, 0))
  nr : NrT f wA g1 m Vs w
  ln : Blk Value.bool 4 w g2 (lnB f f.s.size k)
  bk : Blk Value.bool 4 w g3 (List.replicate f.s.size false)
  bx : BxW f bf w0 w
  lt : g1 < wA.heap.size ∧ g2 < wA.heap.size ∧ wA.heap.size ≤ w.heap.size
section
variable {f : Flr} {fr p g1 g2 g3 m k bf : Nat} {Vs : List SlC} {w0 wA w w' : World}
theorem LpS.no (h : LpS f fr p g1 g2 g3 m k bf Vs w0 wA w) (hk : Kp No w w') : LpS f fr p g1 g2 g3 m k bf Vs w0 wA w' :=
  ⟨hk.blk h.blk (no_no _), h.nr.no hk, h.ln.kpNo hk, h.bk.kpNo hk, h.bx.no hk, ⟨h.lt.1, h.lt.2.1, Nat.le_trans h.lt.2.2 hk.size⟩⟩
theorem BxW.kps {S : Nat → Prop} (h : BxW f bf w0 w) (hk : Kp S w w') (h1 : ¬ S bf) (h2 : ∀ j, S j → w0.heap.size ≤ j) : BxW f bf w0 w' :=
  ⟨hk.blk h.box h1, h.kp.trans' hk fun j hj e => by have := h2 j e; omega⟩
theorem LpS.put1 (h : LpS f fr p g1 g2 g3 m k bf Vs w0 wA w) (hm : m < f.s.size) (d : g1 ≠ g2 ∧ g1 ≠ g3 ∧ g1 ≠ p ∧ g1 ≠ bf ∧ w0.heap.size ≤ g1) (x : SlC) (hr : Rd IK w (slv x) (ints (nearP f m))) (hb : ∀ g, (slv x).ownBlock = some g → wA.heap.size ≤ g) :
    LpS f fr p g1 g2 g3 (m + 1) k bf (Vs.set m x) w0 wA (w.setCell ⟨g1, m, none⟩ (slv x)) := by
  have hs := (Kp.refl (fun j => j = g1) w).setCell (p := ⟨g1, m, none⟩) (fun _ => rfl) (slv x)
  exact ⟨hs.blk h.blk (fun e => d.2.2.1 e.symm), h.nr.put h.lt.1 hm x hr hb, h.ln.kp hs (fun e => d.1 e.symm), h.bk.kp hs (fun e => d.2.1 e.symm), h.bx.kps hs (fun e => d.2.2.2.1 e.symm) (fun j e => by have := d.2.2.2.2; omega), ⟨h.lt.1, h.lt.2.1, Nat.le_trans h.lt.2.2 hs.size⟩⟩
theorem LpS.put2 (h : LpS f fr p g1 g2 g3 m k bf Vs w0 wA w) (hk : k < f.s.size) (d : g2 ≠ g1 ∧ g2 ≠ g3 ∧ g2 ≠ p ∧ g2 ≠ bf ∧ w0.heap.size ≤ g2) (b : Bool) (hb : b = decide (kdS f.s k = 2)) :
    LpS f fr p g1 g2 g3 m (k + 1) bf Vs w0 wA (w.setCell ⟨g2, k, none⟩ (.bool b)) := by
  have hs := (Kp.refl (fun j => j = g2) w).setCell (p := ⟨g2, k, none⟩) (fun _ => rfl) (.bool b)
  have hl := h.ln.set k b
  rw [hb, lnB_succ hk, ← hb] at hl
  exact ⟨hs.blk h.blk (fun e => d.2.2.1 e.symm), h.nr.kp hs (fun e => d.1 e.symm) (fun j e => by have := h.lt.2.1; omega), hl, h.bk.kp hs (fun e => d.2.1 e.symm), h.bx.kps hs (fun e => d.2.2.2.1 e.symm) (fun j e => by have := d.2.2.2.2; omega), ⟨h.lt.1, h.lt.2.1, Nat.le_trans h.lt.2.2 hs.size⟩⟩
theorem LpS.c0 (h : LpS f fr p g1 g2 g3 m k bf Vs w0 wA w) : w.cell? ⟨p, 0, none⟩ = some (.slice (some ⟨g1, 0, none⟩) f.s.size f.s.size) := blk_cell h.blk 0
theorem LpS.c1 (h : LpS f fr p g1 g2 g3 m k bf Vs w0 wA w) : w.cell? ⟨p, 1, none⟩ = some (.slice (some ⟨g2, 0, none⟩) f.s.size f.s.size) := blk_cell h.blk 1
theorem LpS.c2 (h : LpS f fr p g1 g2 g3 m k bf Vs w0 wA w) : w.cell? ⟨p, 2, none⟩ = some (.slice (some ⟨g3, 0, none⟩) f.s.size f.s.size) := blk_cell h.blk 2
theorem OfS.lp (h : OfS f fr p g1 g2 g3 w' w) (bx : BxW f bf w0 w') : LpS f fr p g1 g2 g3 0 0 bf (List.replicate f.s.size (none, 0, 0)) w0 w w :=
  ⟨h.blk, ⟨h.nr, by simp, fun i v hi => by omega⟩, by rw [lnB_none]; exact h.ln, h.bk, bx.no h.kp, ⟨h.nr.lt, h.ln.lt, Nat.le_refl _⟩⟩
end
theorem PlW.put3 {f : Flr} {fr p g1 g2 g3 : Nat} {bl : List Bool} {Vs : List SlC} {w : World} (h : PlW f fr bl p g1 g2 g3 Vs w) (hd : ∀ (i : Nat) v, Vs[i]? = some v → ∀ g, (slv v).ownBlock = some g → g ≠ g3) (d : p ≠ g3 ∧ g1 ≠ g3 ∧ g2 ≠ g3) (b : Nat) :
    PlW f fr (bl.set b true) p g1 g2 g3 Vs (w.setCell ⟨g3, b, none⟩ (.bool true)) := by
  have hs := (Kp.refl (fun j => j = g3) w).setCell (p := ⟨g3, b, none⟩) (fun _ => rfl) (.bool true)
  exact ⟨hs.blk h.blk d.1, h.nr.kp hs d.2.1, h.ln.kp hs d.2.2, h.bk.set b true, h.len, by rw [List.length_set]; exact h.bln, fun i v hv => (h.rd i v hv).kp hs (hd i v hv)⟩
theorem LpS.pl {f : Flr} {fr p g1 g2 g3 bf : Nat} {Vs : List SlC} {w0 wA w : World} (h : LpS f fr p g1 g2 g3 f.s.size f.s.size bf Vs w0 wA w) : PlW f fr (blkB f.s.size []) p g1 g2 g3 Vs w :=
  ⟨h.blk, h.nr.bl, h.ln, by rw [blkB_none]; exact h.bk, h.nr.len, blkB_len _ _, fun i v hv => (h.nr.rd i v (by have := (List.getElem?_eq_some_iff.1 hv).1; rw [h.nr.len] at this; exact this) hv).1⟩
theorem zone_isSome (f : Flr) (i : Nat) (hr : rightB f = true) (hi : i < f.s.size) : (zoneP f i).isSome = decide (kdS f.s i = 2) := by
  unfold zoneP isB
  rw [hr]
  by_cases h : kdS f.s i = 2
  · simp [h, hi]
  · simp [h]; intro _ h2; omega
set_option maxHeartbeats 2000000 in
set_option maxRecDepth 100000 in
theorem ptof_ok (f : Flr) (hsz : f.s.size ≤ 1000000) (fr : Nat) {bv : Value} {B : List Int} {w : World} (hB : Rd IK w bv B) (h : ptOk f fr = true) :
    Calls Tryd.prog 54 #[f.val, .int .i64 (fr : Int), bv] w fun e w' => ∃ p g1 g2 g3 Vs, e = .returned (.tuple #[.pointer (some ⟨p, 0, none⟩), .bool true]) ∧ PlW f fr (blkB f.s.size B) p g1 g2 g3 Vs w' ∧ Kp No w w' := by
  have HBX := Lib.hid (BxW.new f w)
  obtain ⟨n, hn⟩ : ∃ n, n = f.s.size := ⟨_, rfl⟩
  have hnI : ((f.s.size : Nat) : Int) = (n : Int) := by omega
  unfold ptOk at h
  rw [← hn] at h
  simp only [Bool.and_eq_true, decide_eq_true_eq, bne_iff_ne, Int.toNat_natCast] at h
  obtain ⟨⟨⟨_, h1⟩, hb⟩, h35⟩ := h
  have h1b : decide ((n : Int) ≤ (fr : Int)) = false := by simpa using h1
  have h0b : decide ((fr : Int) < 0) = false := by simp
  have HRT := Lib.hid (right_at f (by omega) true hb)
  have HR := Lib.hid hb
  have hjs : fr < f.s.size := by omega
  have hbt := bt_at f.s fr hjs
  have h35b : ((bt f.s fr : Int) == 35) = false := by simp; omega
  have hLB := hB.lenI
  obtain ⟨AB, cB, rfl⟩ := hB.shape
  have HBr := Lib.hid hB
  have hmS := run_mkSv n (by omega)
  have hmB := run_mkBo n (by omega)
  have HNE := Lib.hid hn
  obtain ⟨F, hF⟩ : ∃ F, F = f := ⟨_, rfl⟩
  have HF := Lib.hid hF
  obtain ⟨X, Y, s⟩ := f
  simp only at hnI hbt hjs h35b hn hsz
  have hbs : ((s[fr]'hjs).toNat : Int) = (bt s fr : Int) := by rw [hbt]
  have hn1 : n ≤ 1000000 := by omega
  obtain ⟨nB, hnB⟩ : ∃ nB, nB = B.length := ⟨_, rfl⟩
  rw [← hnB] at HBr hLB ⊢
  have HNB := Lib.hid hnB
  unfold maxLen at hLB
  unfold Flr.val at HRT ⊢
  clear hb h35 hF hn hB hnB hsz
  go_enter Tryd.func54, Tryd.ntmps54
  go_upto_region 4 with (go_at_call 61; refine (HRT.out _).mono ?_; rintro e w1 ⟨rfl, kp1⟩; have B1 := Lib.hid (HBX.out.no kp1); have hb2 : w1.cell? ⟨w.heap.size, 2, none⟩ = some (.string s) := B1.out.c2; clear kp1)
  go_cut [9, 37, 38, 39, 40, 41, 42, 43, 44, 45] (fun pv _ _ _ _ _ _ _ _ _ wx => ∃ p g1 g2 g3, pv = .pointer (some ⟨p, 0, none⟩) ∧ OfS F fr p g1 g2 g3 w1 wx)
  case first =>
    go_region
    all_goals go_wp2_with fail
    all_goals go_meet
    all_goals
      have hnF : n = F.s.size := by rw [HF.out]; exact HNE.out
      refine ⟨w1.heap.size + 1 + 1 + 1, _, _, _, rfl, ofS_mk hnF ?_ ?_ ?_ ?_ (((Kp.refl No w1).alloc _).alloc _ |>.alloc _) ?_ ?_⟩
      · first | exact blk_n2 _ _ _ _ | exact blk_alloc (blk_n1 _ _ _) _ | exact blk_alloc (blk_alloc (blk_new _ _) _) _
      · first | exact blk_n2 _ _ _ _ | exact blk_alloc (blk_n1 _ _ _) _ | exact blk_alloc (blk_alloc (blk_new _ _) _) _
      · first | exact blk_n2 _ _ _ _ | exact blk_alloc (blk_n1 _ _ _) _ | exact blk_alloc (blk_alloc (blk_new _ _) _) _
      · omega
      · omega
      · simp
  case rest =>
    obtain ⟨p, g1, g2, g3, rfl, os⟩ := hcut
    obtain ⟨bf, hbf⟩ : ∃ bf, bf = w.heap.size := ⟨_, rfl⟩
    have bfl : bf < w1.heap.size := by rw [hbf]; exact lt_of_block B1.out.box
    rw [← hbf] at B1 hb2 ⊢
    have B1F : BxW F bf w w1 := by rw [HF.out]; exact B1.out
    have D := Lib.hid (And.intro os.d12 (And.intro os.d13 (And.intro os.d23 (And.intro os.d1 (And.intro os.d2 os.d3)))))
    have G := Lib.hid (show g1 ≠ bf ∧ g2 ≠ bf ∧ g3 ≠ bf ∧ p ≠ bf ∧ w.heap.size ≤ g1 ∧ w.heap.size ≤ g2 ∧ w.heap.size ≤ g3 by
      have := os.ge; have := B1F.kp.size; omega)
    have L0 := Lib.hid (os.lp B1F)
    have G3 := Lib.hid os.bk.lt
    have hnF : n = F.s.size := by rw [HF.out]; exact HNE.out
    have HNF := Lib.hid hnF
    have HRF := Lib.hid (show rightB F = true by rw [HF.out]; exact HR.out)
    obtain ⟨Xb, hXb⟩ : ∃ x : Value, x = .string s := ⟨_, rfl⟩
    clear os B1F hbf hmS hmB hnF
    go_wp2_with fail
    go_loopg [47] (n + 1) (fun g2_ ii wx => ∃ (k : Nat) (Vs : List SlC), g2_ = n + 1 - k ∧ ii = .int .i64 k ∧ k ≤ n ∧ LpS F fr p g1 g2 g3 k k bf Vs w wc wx)
    case atStart => exact ⟨0, _, rfl, rfl, by omega, L0.out⟩
    case round =>
      obtain ⟨k, Vs, hgk, rfl, hk, ls⟩ := hrel
      have LS := Lib.hid ls
      clear ls
      by_cases hlt : k < n
      · have hltI : (k : Int) < (n : Int) := by omega
        have hwk : IntKind.i64.wrap ((k : Int) + 1) = (k : Int) + 1 := IntWalk.i64_in _ (by omega)
        have hkF : k < F.s.size := by rw [← HNF.out]; exact hlt
        obtain ⟨L, hL⟩ : ∃ L, nearP F k = L := ⟨_, rfl⟩
        have NE := Lib.hid (near_at F (by rw [← HNF.out]; exact hn1) k (by omega) L hL)
        obtain ⟨Z, hZ⟩ : ∃ Z, zoneP F k = Z := ⟨_, rfl⟩
        obtain ⟨zi, hzi⟩ : ∃ zi : Nat, zi = Z.getD 0 := ⟨_, rfl⟩
        obtain ⟨zb, hzb⟩ : ∃ zb : Bool, zb = Z.isSome := ⟨_, rfl⟩
        have ZO := Lib.hid (zone_at F (by rw [← HNF.out]; exact hn1) k (by omega) Z hZ (.tuple #[.int .i64 (zi : Int), .bool zb]) (by rw [hzi, hzb]; rfl))
        have HZB := Lib.hid (show zb = decide (kdS F.s k = 2) by rw [hzb, ← hZ]; exact zone_isSome F k HRF.out hkF)
        rw [HF.out] at NE ZO
        unfold Flr.val at NE ZO
        simp only at NE ZO
        have HL := Lib.hid hL; have HKF := Lib.hid hkF
        clear hL hZ hzi hzb hkF hlt
        have lc0 : ∀ wx, LpS F fr p g1 g2 g3 k k bf Vs w wc wx → wx.cell? ⟨p, 0, none⟩ = some (.slice (some ⟨g1, 0, none⟩) n n) := fun wx h => by have := h.c0; rwa [← HNF.out] at this
        have lc1 : ∀ wx Vs', LpS F fr p g1 g2 g3 (k + 1) k bf Vs' w wc wx → wx.cell? ⟨p, 1, none⟩ = some (.slice (some ⟨g2, 0, none⟩) n n) := fun wx Vs' h => by have := h.c1; rwa [← HNF.out] at this
        have lb : ∀ wx m Vs', LpS F fr p g1 g2 g3 m k bf Vs' w wc wx → wx.cell? ⟨bf, 0, none⟩ = some (.int .i64 X) ∧ wx.cell? ⟨bf, 1, none⟩ = some (.int .i64 Y) ∧ wx.cell? ⟨bf, 2, none⟩ = some (.string s) := fun wx m Vs' h => by
          have h0 := h.bx.c0; have h1 := h.bx.c1; have h2 := h.bx.c2
          rw [HF.out] at h0 h1 h2; exact ⟨h0, h1, h2⟩
        have LC0 := Lib.hid lc0; have LC1 := Lib.hid lc1; have LB := Lib.hid lb
        clear lc0 lc1 lb hb2
        have hc0 := LC0.out _ LS.out
        obtain ⟨v0, hv0⟩ : ∃ v, Vs[k]? = some v := ⟨_, List.getElem?_eq_getElem (by rw [LS.out.nr.len]; exact HKF.out)⟩
        have HV0 := Lib.hid hv0
        clear hv0
        have DD := D.out; have GG := G.out
        have D1 := Lib.hid (show g1 ≠ g2 ∧ g1 ≠ g3 ∧ g1 ≠ p ∧ g1 ≠ bf ∧ w.heap.size ≤ g1 by omega)
        have D2 := Lib.hid (show g2 ≠ g1 ∧ g2 ≠ g3 ∧ g2 ≠ p ∧ g2 ≠ bf ∧ w.heap.size ≤ g2 by omega)
        clear DD GG
        obtain ⟨hb0, hb1, hb2⟩ := LB.out _ _ _ LS.out
        go_upto_region 8 with fail
        go_cut [50, 51, 52, 53, 54, 55, 56, 57, 58] (fun _ _ _ _ _ _ _ _ _ wx => ∃ Vs', LpS F fr p g1 g2 g3 (k + 1) k bf Vs' w wc wx)
        case first =>
          go_region_law (go_simp; go_at_call 32; refine (NE.out _).mono ?_; rintro e w3 ⟨A, q, rfl, ns⟩; have L3 := LS.out.no (w' := w3) (Kp.trans ((Kp.refl No wr).drew) ns.kp); have d0 := LC0.out _ L3; have df : w3.frozen? ⟨g1, k, none⟩ = false := L3.nr.bl.free k; have dg : w3.cell? ⟨g1, k, none⟩ = some (slv v0) := L3.nr.bl.get HV0.out; have L3 := Lib.hid L3; have NS := Lib.hid ns; clear ns)
          all_goals
            go_wp2_with fail
            go_meet
            have hlA := L3.out.nr.bl.lt
            exact ⟨_, (L3.out.put1 HKF.out D1.out (A, L.length, q) (by rw [HL.out]; exact NS.out.own.rd) (fun g hg => Nat.le_trans (by have := LS.out.lt.2.2; simpa using this) (NS.out.ge g hg))).no (Kp.refl _ _)⟩
        case rest =>
          obtain ⟨V2, l2⟩ := hcut
          have L2 := Lib.hid l2
          clear l2 hc0 hb0 hb1 hb2 LC0 NE HV0
          have hc1 := LC1.out _ _ L2.out
          obtain ⟨hb0, hb1, hb2⟩ := LB.out _ _ _ L2.out
          obtain ⟨c2, hc2⟩ : ∃ c, (lnB F F.s.size k)[k]? = some c := ⟨_, lnB_get HKF.out⟩
          have HC2 := Lib.hid hc2
          clear hc2
          obtain ⟨wd, rfl⟩ : ∃ x : World, x = wc := ⟨_, rfl⟩
          go_upto_region 9 with fail
          go_region_law (go_simp; go_at_call 68; refine (ZO.out _).mono ?_; rintro e w3 ⟨rfl, kz⟩; have L3 := L2.out.no (w' := w3) (Kp.trans ((Kp.refl No _).drew) kz); have d0 := LC1.out _ _ L3; have df : w3.frozen? ⟨g2, k, none⟩ = false := L3.ln.free k; have dg : w3.cell? ⟨g2, k, none⟩ = some (.bool c2) := L3.ln.get HC2.out; have L3 := Lib.hid L3; clear kz)
          all_goals
            go_wp2_with fail
            go_roundg (n + 1 - (k + 1))
            case measure => omega
            case rel => exact ⟨k + 1, V2, rfl, by go_num, by omega, (L3.out.put2 HKF.out D2.out zb HZB.out).no (Kp.refl _ _)⟩
      · obtain rfl : n = k := by omega
        have hd0 : ¬ (n : Int) < (n : Int) := by omega
        have PL := LS.out
        rw [HNF.out] at PL
        have OG := Lib.hid (show ∀ (i : Nat) v, Vs[i]? = some v → ∀ g, (slv v).ownBlock = some g → g ≠ g3 from fun i v hv g hg => by
          have := (PL.nr.rd i v (by have := (List.getElem?_eq_some_iff.1 hv).1; rw [PL.nr.len] at this; exact this) hv).2 g hg
          have := G3.out; omega)
        have P0 := Lib.hid PL.pl
        have K0 := Lib.hid (show Kp No w wr from PL.bx.kp)
        have DD := D.out; have GG := G.out
        have D3 := Lib.hid (show p ≠ g3 ∧ g1 ≠ g3 ∧ g2 ≠ g3 ∧ w.heap.size ≤ g3 by omega)
        have HSF := Lib.hid (show F.s.size = s.size by rw [HF.out])
        clear hlt PL DD GG hb2 LS HRT HRF
        go_wp2_with fail
        obtain ⟨we, rfl⟩ : ∃ x : World, x = wr := ⟨_, rfl⟩
        go_loopg [74] (nB + 1) (fun g2_ ii wx => ∃ j : Nat, g2_ = nB + 1 - j ∧ ii = .int .i64 j ∧ j ≤ nB ∧ PlW F fr (blkB F.s.size (B.take j)) p g1 g2 g3 Vs wx ∧ Kp No w wx)
        case atStart => exact ⟨0, rfl, rfl, by omega, by rw [List.take_zero]; exact P0.out, K0.out⟩
        case round =>
          obtain ⟨j, hgj, rfl, hj, pl, kp⟩ := hrel
          have PL := Lib.hid pl; have KP := Lib.hid kp
          clear pl kp P0 K0
          by_cases hlt : j < nB
          · have hltI : (j : Int) < (nB : Int) := by omega
            have hwj : IntKind.i64.wrap ((j : Int) + 1) = (j : Int) + 1 := IntWalk.i64_in _ (by omega)
            obtain ⟨x, hx⟩ : ∃ x, B[j]? = some x := ⟨_, List.getElem?_eq_getElem (by rw [← HNB.out]; exact hlt)⟩
            rcases HBr.out with ⟨_, he⟩ | ⟨g, o, cap', hv, _⟩
            · have := HNB.out; rw [he, List.length_nil] at this; omega
            simp only [Value.slice.injEq] at hv
            obtain ⟨rfl, hzz, rfl⟩ := hv
            clear hzz
            have hcx := (HBr.out.kpNo KP.out).intAt hx
            have HX := Lib.hid hx
            clear hx hlt
            by_cases hr : 0 ≤ x ∧ x < n
            · obtain ⟨h0, h1⟩ := hr
              obtain ⟨b, rfl⟩ : ∃ b : Nat, x = b := ⟨x.toNat, by omega⟩
              have hb : b < n := by omega
              have hc2 : wr.cell? ⟨p, 2, none⟩ = some (.slice (some ⟨g3, 0, none⟩) n n) := by have := PL.out.c2; rwa [← HNF.out] at this
              obtain ⟨c0, hc0⟩ : ∃ c, (blkB F.s.size (B.take j))[b]? = some c := ⟨_, blkB_get (by rw [← HNF.out]; exact hb)⟩
              have hcb : wr.cell? ⟨g3, b, none⟩ = some (.bool c0) := PL.out.bk.get hc0
              have hcf : wr.frozen? ⟨g3, b, none⟩ = false := PL.out.bk.free b
              have HBI := Lib.hid (blkB_in HX.out (n := F.s.size) (by rw [← HNF.out]; exact hb))
              have P2 := Lib.hid (PL.out.put3 OG.out ⟨D3.out.1, D3.out.2.1, D3.out.2.2.1⟩ b)
              clear hc0 hb
              go_wp2_with fail
              go_roundg (nB + 1 - (j + 1))
              case measure => omega
              case rel => exact ⟨j + 1, rfl, by go_num, by omega, by rw [HBI.out]; exact P2.out, KP.out.setCell (p := ⟨g3, b, none⟩) (fun h => absurd D3.out.2.2.2 (by show ¬ w.heap.size ≤ g3; simpa using h)) _⟩
            · have HBO := Lib.hid (blkB_out HX.out (n := F.s.size) (by rw [← HNF.out]; omega))
              by_cases h0 : 0 ≤ x
              · have h1 : ¬ x < (n : Int) := fun h => hr ⟨h0, h⟩
                clear hr
                go_wp2_with fail
                go_roundg (nB + 1 - (j + 1))
                case measure => omega
                case rel => exact ⟨j + 1, rfl, by go_num, by omega, by rw [HBO.out]; exact PL.out, KP.out⟩
              · clear hr
                go_wp2_with fail
                go_roundg (nB + 1 - (j + 1))
                case measure => omega
                case rel => exact ⟨j + 1, rfl, by go_num, by omega, by rw [HBO.out]; exact PL.out, KP.out⟩
          · obtain rfl : j = nB := by omega
            have hd1 : ¬ (j : Int) < (j : Int) := by omega
            have HE := Lib.hid (show B.take j = B by rw [HNB.out, List.take_length])
            clear hlt
            go_wp2_with fail
            go_ret2
            exact ⟨p, rfl, ⟨g1, g2, g3, Vs, by have := PL.out; rw [HE.out, HF.out] at this; exact this⟩, KP.out⟩
end Go.Proofs.YtgdokpfepfmbmaaDoor

namespace Go.Proofs.YtgdokpfepfmbmaaDoor
set_option linter.unusedVariables false
set_option linter.unusedSimpArgs false
open Go.RowKit

noncomputable def stepsP (f : Flr) (fr : Nat) (B : List Int) (u : Nat) : List Nat := if u ≠ fr ∧ kdS f.s u ≠ 2 then [] else (nearP f u).filter fun (c : Nat) => !decide ((c : Int) ∈ B)
noncomputable def stepsTo (f : Flr) (B : List Int) (u j : Nat) : List Nat := ((nearP f u).take j).filter fun (c : Nat) => !decide ((c : Int) ∈ B)
theorem stepsTo_in {f : Flr} {B : List Int} {u j c : Nat} (h : (nearP f u)[j]? = some c) (hk : ¬ (c : Int) ∈ B) : stepsTo f B u (j + 1) = stepsTo f B u j ++ [c] := by
  unfold stepsTo; rw [List.take_add_one, h, List.filter_append]; simp [hk]
theorem stepsTo_out {f : Flr} {B : List Int} {u j c : Nat} (h : (nearP f u)[j]? = some c) (hk : (c : Int) ∈ B) : stepsTo f B u (j + 1) = stepsTo f B u j := by
  unfold stepsTo; rw [List.take_add_one, h, List.filter_append]; simp [hk]
theorem stepsTo_len (f : Flr) (B : List Int) (u j : Nat) : (stepsTo f B u j).length ≤ j := Nat.le_trans (List.length_filter_le _ _) (List.length_take_le _ _)
theorem near_len4 (f : Flr) (c : Int) : (nearP f c).length ≤ 4 := by
  unfold nearP
  split
  · exact Nat.le_trans (List.length_filter_le _ _) (besideP_len _ _ _)
  · simp
theorem near_sz {f : Flr} (r : RightP f) {x y : Nat} (hx : x < f.s.size) (h : y ∈ nearP f x) : y < f.s.size := by
  unfold nearP at h
  split at h
  · have hm := (List.mem_filter.1 h).1
    have hs : f.s.size = f.W.toNat * f.H.toNat := by
      have h1 := r.len; have h2 := r.w1; have h3 := r.h1
      rw [← Int.toNat_of_nonneg (show 0 ≤ f.W by omega), ← Int.toNat_of_nonneg (show 0 ≤ f.H by omega)] at h1
      exact_mod_cast h1
    rw [hs]
    exact beside_lt (by have := r.w1; omega) (by rw [← hs]; simpa using hx) hm
  · simp at h

set_option maxHeartbeats 1000000 in
set_option maxRecDepth 100000 in
theorem ptsteps_any {f : Flr} {fr p g1 g2 g3 : Nat} {B : List Int} {Vs : List SlC} {w : World} (r : RightP f) (h : PlW f fr (blkB f.s.size B) p g1 g2 g3 Vs w) (u : Nat) (hu : u < f.s.size) :
    Calls Tryd.prog 82 #[.pointer (some ⟨p, 0, none⟩), .int .i64 (u : Int)] w fun e w' => ∃ v, e = .returned v ∧ NewS IK 3 w w' v (ints (stepsP f fr B u)) := by
  have hs256 : f.s.size ≤ 256 := (r).s256
  obtain ⟨n, hn⟩ : ∃ n, n = f.s.size := ⟨_, rfl⟩
  obtain ⟨N, hN⟩ : ∃ N, N = stepsP f fr B u := ⟨_, rfl⟩
  rw [← hN]
  unfold stepsP at hN
  have hc0 := h.c0; have hc1 := h.c1; have hc2 := h.c2; have hc3 := h.c3
  rw [← hn] at hc0 hc1 hc2 hs256
  have hun : u < n := by omega
  have huI : (u : Int) < (n : Int) := by omega
  obtain ⟨lb, hlb⟩ : ∃ b, b = decide (kdS f.s u = 2) := ⟨_, rfl⟩
  have hl := h.ln.get (lnB_get hu)
  rw [show decide (u < f.s.size ∧ kdS f.s u = 2) = lb by rw [hlb]; simp [hu]] at hl
  obtain ⟨db, hdb⟩ : ∃ b, b = ((u : Int) != (fr : Int)) := ⟨_, rfl⟩
  have hdbI := hdb.symm
  have H := Lib.hid h; have HN0 := Lib.hid hn; have HR := Lib.hid r
  by_cases hx : u ≠ fr ∧ kdS f.s u ≠ 2
  · rw [if_pos hx] at hN
    obtain rfl : lb = false := by rw [hlb]; simp [hx.2]
    obtain rfl : db = true := by rw [hdb]; simp; omega
    have HN := Lib.hid hN
    clear h hn hN hx hlb hdb r hu
    go_enter Tryd.func82, Tryd.ntmps82
    go_wp2_with fail
    go_ret
    exact ⟨_, rfl, by rw [HN.out]; exact NewS.nil _ _ _⟩
  · rw [if_neg hx] at hN
    have hor : db = true → lb = true := fun e => by
      rw [hdb] at e; simp at e
      have : u ≠ fr := by omega
      rw [hlb]; simp
      exact Classical.byContradiction fun h2 => hx ⟨this, h2⟩
    have hN2 : N = stepsTo f B u (nearP f u).length := by rw [hN]; unfold stepsTo; rw [List.take_length]
    have hrd := fun v hv => h.rd u v hv
    obtain ⟨⟨A, m, q⟩, hv⟩ : ∃ v, Vs[u]? = some v := ⟨_, List.getElem?_eq_getElem (by rw [h.len]; exact hu)⟩
    have hr := h.rd u _ hv
    have hcv := h.nr.get hv
    unfold slv at hr hcv
    simp only at hr hcv
    obtain ⟨A', q', hsh⟩ := hr.shape
    simp only [Value.slice.injEq] at hsh
    obtain ⟨rfl, hm, rfl⟩ := hsh
    rw [ints_len] at hm
    have hm4 : m ≤ 4 := by rw [hm]; exact near_len4 f u
    have HRd := Lib.hid hr; have HN := Lib.hid hN2; have HM := Lib.hid hm; have HU := Lib.hid hu
    clear hx hlb hdb hrd hN hN2 hr hm h hn hv r hu
    have hcase : (db = true ∧ lb = true) ∨ db = false := by
      cases db with
      | true => exact .inl ⟨rfl, hor rfl⟩
      | false => exact .inr rfl
    clear hor
    rcases hcase with ⟨rfl, rfl⟩ | rfl
    all_goals
      go_enter Tryd.func82, Tryd.ntmps82
      go_wp2_with fail
      go_loopg [5, 32] (m + 1) (fun g_ v ii wx => ∃ (j k : Nat) (A : Option Addr) (q : Nat), g_ = m + 1 - j ∧ ii = .int .i64 j ∧ j ≤ m ∧ v = .slice A k q ∧ k = (stepsTo f B u j).length ∧ NewS IK 3 w wx v (ints (stepsTo f B u j)))
      case atStart => exact ⟨0, 0, none, 0, rfl, rfl, by omega, rfl, rfl, NewS.nil _ _ _⟩
      case round =>
        obtain ⟨j, k, A2, q2, hgk, rfl, hj, rfl, hk, ns⟩ := hrel
        have hk4 : k ≤ 4 := by rw [hk]; exact Nat.le_trans (stepsTo_len f B u j) (by omega)
        have HK := Lib.hid hk; have NS := Lib.hid ns
        clear hk ns hc0 hc1 hc3 hcv hl
        by_cases hlt : j < m
        · have hltI : (j : Int) < (m : Int) := by omega
          have hwj : IntKind.i64.wrap ((j : Int) + 1) = (j : Int) + 1 := IntWalk.i64_in _ (by omega)
          obtain ⟨x, hx⟩ : ∃ x, (nearP f u)[j]? = some x := ⟨_, List.getElem?_eq_getElem (by rw [← HM.out]; exact hlt)⟩
          have hxs := near_sz HR.out HU.out (List.mem_of_getElem? hx)
          have hxn : x < n := by rw [HN0.out]; exact hxs
          have hxI : (x : Int) < (n : Int) := by omega
          rcases HRd.out with ⟨_, he⟩ | ⟨g, o, cap', hv, _⟩
          · have h1 := HM.out
            have := congrArg List.length he
            rw [ints_len, List.length_nil] at this
            omega
          simp only [Value.slice.injEq] at hv
          obtain ⟨rfl, hzz, rfl⟩ := hv
          clear hzz
          have hcx := (HRd.out.kpNo NS.out.kp).intAt (ints_get hx)
          have P2 := H.out.no NS.out.kp
          have hd2 : wr.cell? ⟨p, 2, none⟩ = some (.slice (some ⟨g3, 0, none⟩) n n) := by have := P2.c2; rwa [← HN0.out] at this
          have hbb := P2.bk.get (blkB_get hxs)
          obtain ⟨bb, hb⟩ : ∃ b, b = decide ((x : Int) ∈ B) := ⟨_, rfl⟩
          rw [← hb] at hbb
          cases bb with
          | true =>
            have HL := Lib.hid (stepsTo_out hx (by simpa using hb.symm))
            clear hx hxs hlt hb P2 hc2
            go_wp2_with fail
            go_roundg (m + 1 - (j + 1))
            case measure => omega
            case rel => exact ⟨j + 1, k, A2, q2, rfl, by go_num, by omega, rfl, by rw [HL.out]; exact HK.out, by rw [HL.out]; exact NS.out⟩
          | false =>
            have HL := Lib.hid (stepsTo_in hx (by simpa using hb.symm))
            clear hx hxs hlt hb P2 hc2
            go_wp2_with (at_builtin; refine wpl_snocI rfl (.tmp 44) (.tmp 46) rfl rfl rfl rfl NS.out HK.out (by omega) ?_; intro A3 q3 w4 n4 k4 _; have N4 := Lib.hid n4; clear n4 k4 hcx hd2 hbb)
            go_roundg (m + 1 - (j + 1))
            case measure => omega
            case rel => exact ⟨j + 1, k + 1, A3, q3, rfl, by go_num, by omega, rfl, by rw [HL.out, List.length_append, ← HK.out]; rfl, by rw [HL.out]; exact N4.out⟩
        · obtain rfl : j = m := by omega
          have hd0 : ¬ (j : Int) < (j : Int) := by omega
          have HL := Lib.hid (show N = stepsTo f B u j by rw [HN.out, ← HM.out])
          clear hlt
          go_wp2_with fail
          go_ret
          exact ⟨_, rfl, by rw [HL.out]; exact NS.out⟩
end Go.Proofs.YtgdokpfepfmbmaaDoor

namespace Go.Proofs.YtgdokpfepfmbmaaDoor
set_option linter.unusedVariables false
set_option linter.unusedSimpArgs false
open Go.RowKit

structure Ent where
  k : Int
  v : Int
  q : Nat
deriving DecidableEq
def Ent.lt (a b : Ent) : Prop := a.k < b.k ∨ (a.k = b.k ∧ a.q < b.q)
instance (a b : Ent) : Decidable (a.lt b) := inferInstanceAs (Decidable (_ ∨ _))
theorem Ent.lt_asymm {a b : Ent} (h : a.lt b) : ¬ b.lt a := by unfold Ent.lt at *; omega
theorem Ent.nlt_trans {a b c : Ent} (h : ¬ a.lt b) (g : ¬ b.lt c) : ¬ a.lt c := by unfold Ent.lt at *; omega
theorem Ent.nlt_of {a b c : Ent} (h : ¬ a.lt b) (g : c.lt b) : ¬ a.lt c := by unfold Ent.lt at *; omega
theorem Ent.nlt_irrefl (a : Ent) : ¬ a.lt a := by unfold Ent.lt; omega

def swapL {α : Type} (E : List α) (i j : Nat) (a b : α) : List α := (E.set i b).set j a
section
variable {α : Type} {E : List α} {i p : Nat} {a b : α}
theorem swapL_len : (swapL E i p a b).length = E.length := by simp [swapL]
theorem swapL_get (ha : E[i]? = some a) (hb : E[p]? = some b) (j : Nat) : (swapL E i p a b)[j]? = if j = p then some a else if j = i then some b else E[j]? := by
  unfold swapL
  have h1 := (List.getElem?_eq_some_iff.1 ha).1
  have h2 := (List.getElem?_eq_some_iff.1 hb).1
  rw [List.getElem?_set, List.getElem?_set]
  by_cases e1 : p = j
  · subst e1; simp [h2]
  · rw [if_neg e1, if_neg (Ne.symm e1)]
    by_cases e2 : i = j
    · subst e2; simp [h1]
    · rw [if_neg e2, if_neg (Ne.symm e2)]
theorem swapL_perm (ha : E[i]? = some a) (hb : E[p]? = some b) : (swapL E i p a b).Perm E := by
  have h1 := (List.getElem?_eq_some_iff.1 ha)
  have h2 := (List.getElem?_eq_some_iff.1 hb)
  obtain ⟨hi, rfl⟩ := h1
  obtain ⟨hp, rfl⟩ := h2
  have := Array.swap_perm (xs := E.toArray) (i := i) (j := p) (by simpa using hi) (by simpa using hp)
  rw [List.swap_toArray] at this
  have := Array.perm_iff_toList_perm.1 this
  simpa [swapL] using this
end

def HeapO (E : List Ent) : Prop := ∀ (j : Nat) a b, 0 < j → E[j]? = some a → E[(j - 1) / 2]? = some b → ¬ a.lt b
structure UpI (E : List Ent) (i : Nat) : Prop where
  o : ∀ (j : Nat) a b, 0 < j → j ≠ i → E[j]? = some a → E[(j - 1) / 2]? = some b → ¬ a.lt b
  g : ∀ (j : Nat) a b, 0 < j → 0 < i → (j - 1) / 2 = i → E[j]? = some a → E[(i - 1) / 2]? = some b → ¬ a.lt b
theorem UpI.done {E : List Ent} {i : Nat} (h : UpI E i) (hs : ∀ a b, 0 < i → E[i]? = some a → E[(i - 1) / 2]? = some b → ¬ a.lt b) : HeapO E := fun j a b hj ha hb => by
  by_cases e : j = i
  · subst e; exact hs a b hj ha hb
  · exact h.o j a b hj e ha hb
theorem UpI.step {E : List Ent} {i : Nat} {a b : Ent} (h : UpI E i) (hi : 0 < i) (ha : E[i]? = some a) (hb : E[(i - 1) / 2]? = some b) (hl : a.lt b) : UpI (swapL E i ((i - 1) / 2) a b) ((i - 1) / 2) := by
  obtain ⟨p, hp⟩ : ∃ p, p = (i - 1) / 2 := ⟨_, rfl⟩
  rw [← hp] at hb ⊢
  have hpi : p < i := by omega
  have hg := fun j => swapL_get (E := E) (i := i) (p := p) ha hb j
  refine ⟨fun j x y hj hjp hx hy => ?_, fun j x y hj hp0 hjp hx hy => ?_⟩
  · rw [hg] at hx hy
    rw [if_neg hjp] at hx
    by_cases e : j = i
    · subst e
      rw [if_pos rfl] at hx
      rw [← hp, if_pos rfl] at hy
      cases hx; cases hy
      exact Ent.lt_asymm hl
    · rw [if_neg e] at hx
      by_cases e1 : (j - 1) / 2 = p
      · rw [if_pos e1] at hy
        cases hy
        exact Ent.nlt_of (h.o j x b hj e hx (by rw [e1]; exact hb)) hl
      · rw [if_neg e1] at hy
        by_cases e2 : (j - 1) / 2 = i
        · rw [if_pos e2] at hy
          cases hy
          exact h.g j x b hj hi e2 hx (by rw [← hp]; exact hb)
        · rw [if_neg e2] at hy
          exact h.o j x y hj e hx hy
  · rw [hg] at hx hy
    rw [if_neg (by omega), if_neg (by omega)] at hy
    have hbc := h.o p b y hp0 (by omega) hb hy
    rw [if_neg (by omega)] at hx
    by_cases e : j = i
    · rw [if_pos e] at hx; cases hx; exact hbc
    · rw [if_neg e] at hx
      exact Ent.nlt_trans (h.o j x b hj e hx (by rw [hjp]; exact hb)) hbc
theorem UpI.push {E : List Ent} (h : HeapO E) (x : Ent) : UpI (E ++ [x]) E.length := by
  refine ⟨fun j a b hj hne ha hb => ?_, fun j a b hj hi hp ha hb => ?_⟩
  · have hjl := (List.getElem?_eq_some_iff.1 ha).1
    simp at hjl
    rw [List.getElem?_append_left (by omega)] at ha hb
    exact h j a b hj ha hb
  · have hjl := (List.getElem?_eq_some_iff.1 ha).1
    simp at hjl; omega

structure DnI (E : List Ent) (i : Nat) : Prop where
  o : ∀ (j : Nat) a b, 0 < j → (j - 1) / 2 ≠ i → E[j]? = some a → E[(j - 1) / 2]? = some b → ¬ a.lt b
  g : ∀ (j : Nat) a b, 0 < j → 0 < i → (j - 1) / 2 = i → E[j]? = some a → E[(i - 1) / 2]? = some b → ¬ a.lt b
theorem DnI.done {E : List Ent} {i : Nat} (h : DnI E i) (hs : ∀ (j : Nat) a b, 0 < j → (j - 1) / 2 = i → E[j]? = some a → E[i]? = some b → ¬ a.lt b) : HeapO E := fun j a b hj ha hb => by
  by_cases e : (j - 1) / 2 = i
  · exact hs j a b hj e ha (by rw [← e]; exact hb)
  · exact h.o j a b hj e ha hb
theorem DnI.step {E : List Ent} {i l : Nat} {a b : Ent} (h : DnI E i) (hl0 : 0 < l) (hli : (l - 1) / 2 = i) (ha : E[i]? = some a) (hb : E[l]? = some b) (hlt : b.lt a) (hmin : ∀ (j : Nat) x, 0 < j → (j - 1) / 2 = i → E[j]? = some x → ¬ x.lt b) :
    DnI (swapL E i l a b) l := by
  have hg := fun j => swapL_get (E := E) (i := i) (p := l) ha hb j
  have hil : i < l := by omega
  refine ⟨fun j x y hj hjp hx hy => ?_, fun j x y hj hp0 hjp hx hy => ?_⟩
  · rw [hg] at hx hy
    rw [if_neg hjp] at hy
    by_cases e : j = l
    · subst e
      rw [if_pos rfl] at hx
      rw [if_pos hli] at hy
      cases hx; cases hy
      exact Ent.lt_asymm hlt
    · rw [if_neg e] at hx
      by_cases e1 : j = i
      · rw [if_pos e1] at hx; cases hx
        rw [if_neg (by omega)] at hy
        exact h.g l b y hl0 (by omega) hli hb (by rw [← e1]; exact hy)
      · rw [if_neg e1] at hx
        by_cases e2 : (j - 1) / 2 = i
        · rw [if_pos e2] at hy; cases hy
          exact hmin j x hj e2 hx
        · rw [if_neg e2] at hy
          exact h.o j x y hj e2 hx hy
  · rw [hg] at hx hy
    rw [if_neg (by omega), if_pos hli] at hy
    cases hy
    rw [if_neg (by omega), if_neg (by omega)] at hx
    exact h.o j x b hj (by omega) hx (by rw [hjp]; exact hb)
theorem HeapO.min {E : List Ent} (h : HeapO E) {a : Ent} (ha : E[0]? = some a) : ∀ (j : Nat) x, E[j]? = some x → ¬ x.lt a := by
  intro j
  induction j using Nat.strongRecOn with
  | _ j ih =>
    intro x hx
    by_cases e : j = 0
    · subst e; rw [ha] at hx; cases hx; exact Ent.nlt_irrefl _
    · have hjl := (List.getElem?_eq_some_iff.1 hx).1
      obtain ⟨y, hy⟩ : ∃ y, E[(j - 1) / 2]? = some y := ⟨_, List.getElem?_eq_getElem (by omega)⟩
      exact Ent.nlt_trans (h j x y (by omega) hx hy) (ih ((j - 1) / 2) (by omega) y hy)
theorem HeapO.nil : HeapO [] := fun j a b hj ha => by simp at ha
/-- The last one goes to the head, and is taken off: what is left may be out of order there alone. -/
theorem HeapO.cut {E : List Ent} {a b : Ent} {n : Nat} (h : HeapO E) (hn : E.length = n + 1) (ha : E[0]? = some a) (hb : E[n]? = some b) : DnI ((swapL E 0 n a b).take n) 0 ∧ E.Perm (a :: (swapL E 0 n a b).take n) := by
  have hg := fun j => swapL_get (E := E) (i := 0) (p := n) ha hb j
  have hs : swapL E 0 n a b = (swapL E 0 n a b).take n ++ [a] := by
    have h1 : (swapL E 0 n a b)[n]? = some a := by rw [hg, if_pos rfl]
    have h2 := List.take_append_drop n (swapL E 0 n a b)
    have h3 : (swapL E 0 n a b).drop n = [a] := by
      rw [List.drop_eq_getElem_cons (by rw [swapL_len, hn]; omega), List.drop_eq_nil_of_le (by rw [swapL_len, hn]; omega)]
      have := List.getElem?_eq_some_iff.1 h1
      rw [this.2]
    rw [h3] at h2
    exact h2.symm
  refine ⟨⟨fun j x y hj hjp hx hy => ?_, fun j x y hj h0 => by omega⟩, ?_⟩
  · rw [List.getElem?_take] at hx hy
    split at hx
    · split at hy
      · rw [hg] at hx hy
        rw [if_neg (by omega), if_neg (by omega)] at hx hy
        exact h j x y hj hx hy
      · cases hy
    · cases hx
  · have := (swapL_perm ha hb).symm
    rw [hs] at this
    exact this.trans (List.perm_append_singleton _ _)
/-- Which of some is least. -/
structure LstI (E : List Ent) (i l : Nat) (cs : List Nat) : Prop where
  at_ : l = i ∨ (0 < l ∧ (l - 1) / 2 = i ∧ ∀ a b, E[i]? = some a → E[l]? = some b → b.lt a)
  lt : l < E.length
  min : ∀ c ∈ cs, ∀ x y, E[c]? = some x → E[l]? = some y → ¬ x.lt y
end Go.Proofs.YtgdokpfepfmbmaaDoor

namespace Go.Proofs.YtgdokpfepfmbmaaDoor
set_option linter.unusedVariables false
set_option linter.unusedSimpArgs false
open Go.RowKit

/-- A walk of k steps. -/
inductive Wk (st : Nat → List Nat) (s : Nat) : Nat → Nat → Prop where
  | nil : Wk st s 0 s
  | step {k a c : Nat} : Wk st s k a → c ∈ st a → Wk st s (k + 1) c
/-- d is how far c is. -/
def IsD (st : Nat → List Nat) (s c : Nat) (d : Int) : Prop := (d = -1 ∧ ∀ k, ¬ Wk st s k c) ∨ ∃ k : Nat, d = k ∧ Wk st s k c ∧ ∀ k', Wk st s k' c → k ≤ k'
theorem IsD.uniq {st : Nat → List Nat} {s c : Nat} {d e : Int} (h : IsD st s c d) (g : IsD st s c e) : d = e := by
  rcases h with ⟨rfl, h⟩ | ⟨k, rfl, h1, h2⟩ <;> rcases g with ⟨rfl, g⟩ | ⟨j, rfl, g1, g2⟩
  · rfl
  · exact absurd g1 (h _)
  · exact absurd h1 (g _)
  · have := h2 _ g1; have := g2 _ h1; omega
def inP (P : List (Nat × Nat)) (i c : Nat) : Prop := ∃ j k, j < i ∧ P[j]? = some (k, c)
structure BfI (st : Nat → List Nat) (s n t : Nat) (D By : List Int) (P : List (Nat × Nat)) : Prop where
  lenD : D.length = n
  lenB : By.length = n
  z : P[0]? = some (0, s)
  q : ∀ (i k c : Nat), P[i]? = some (k, c) → c < n ∧ D[c]? = some (k : Int) ∧ Wk st s k c
  inj : ∀ (i j k l c : Nat), P[i]? = some (k, c) → P[j]? = some (l, c) → i = j
  on : ∀ (c : Nat) d, D[c]? = some d → (d = -1 ∨ ∃ i k : Nat, P[i]? = some (k, c))
  mono : ∀ (i j k l c e : Nat), i ≤ j → P[i]? = some (k, c) → P[j]? = some (l, e) → k ≤ l
  span : ∀ (i j k l c e : Nat), t ≤ i → P[i]? = some (k, c) → P[j]? = some (l, e) → l ≤ k + 1
  cl : ∀ (j k u : Nat), j < t → P[j]? = some (k, u) → ∀ c ∈ st u, ∃ i k' : Nat, P[i]? = some (k', c) ∧ k' ≤ k + 1
  by_ : ∀ (i k c : Nat), 0 < i → P[i]? = some (k, c) → ∃ j l u m : Nat, j < i ∧ P[j]? = some (l, u) ∧ k = l + 1 ∧ (st u)[m]? = some c ∧ By[c]? = some (u : Int) ∧ (∀ m' c', m' < m → (st u)[m']? = some c' → inP P i c') ∧ (∀ j' l' u', j' < j → P[j']? = some (l', u') → ∀ c' ∈ st u', inP P i c')
structure BfK (st : Nat → List Nat) (s n t m kx x : Nat) (D By : List Int) (P : List (Nat × Nat)) : Prop where
  b : BfI st s n t D By P
  at_ : P[t]? = some (kx, x)
  part : ∀ c ∈ (st x).take m, ∃ i k' : Nat, P[i]? = some (k', c) ∧ k' ≤ kx + 1
section
variable {st : Nat → List Nat} {s n t m kx x c : Nat} {D By : List Int} {P : List (Nat × Nat)}
theorem BfI.start (hs : s < n) : BfI st s n 0 ((List.replicate n (-1 : Int)).set s 0) (List.replicate n (-1 : Int)) [(0, s)] := by
  have one : ∀ (i : Nat) (y : Nat × Nat), [(0, s)][i]? = some y → i = 0 ∧ y = (0, s) := fun i y h => by
    cases i with
    | zero => simp at h; exact ⟨rfl, h.symm⟩
    | succ i => simp at h
  refine ⟨by simp, by simp, rfl, fun i k c h => ?_, fun i j k l c h1 h2 => ?_, fun c d h => ?_, fun i j k l c e _ h1 h2 => ?_, fun i j k l c e _ h1 h2 => ?_, fun j k u hj => by omega, fun i k c hi h => ?_⟩
  · obtain ⟨rfl, e⟩ := one _ _ h
    simp at e; obtain ⟨rfl, rfl⟩ := e
    exact ⟨hs, by simp [hs], .nil⟩
  · have := (one _ _ h1).1; have := (one _ _ h2).1; omega
  · rw [List.getElem?_set, List.length_replicate] at h
    split at h
    · rename_i e; subst e; exact .inr ⟨0, 0, rfl⟩
    · rw [List.getElem?_replicate] at h
      split at h
      · cases h; exact .inl rfl
      · cases h
  · have h3 := (one _ _ h1).2; have h4 := (one _ _ h2).2; simp at h3 h4; omega
  · have h3 := (one _ _ h1).2; have h4 := (one _ _ h2).2; simp at h3 h4; omega
  · have := (one _ _ h).1; omega
theorem BfI.into (h : BfI st s n t D By P) (hx : P[t]? = some (kx, x)) : BfK st s n t 0 kx x D By P := ⟨h, hx, fun c hc => by simp at hc⟩
theorem BfK.skip (h : BfK st s n t m kx x D By P) (hc : (st x)[m]? = some c) {d : Int} (hd : D[c]? = some d) (h0 : 0 ≤ d) : BfK st s n t (m + 1) kx x D By P :=
  ⟨h.b, h.at_, fun c' hc' => by
    rw [List.take_add_one, hc] at hc'
    rcases List.mem_append.1 hc' with h2 | h2
    · exact h.part c' h2
    · simp at h2; subst h2
      rcases h.b.on c' d hd with h3 | ⟨i, k, h3⟩
      · omega
      · exact ⟨i, k, h3, h.b.span _ _ _ _ _ _ (Nat.le_refl _) h.at_ h3⟩⟩
theorem BfK.put (h : BfK st s n t m kx x D By P) (hc : (st x)[m]? = some c) (hcn : c < n) {d : Int} (hd : D[c]? = some d) (h0 : d < 0) : BfK st s n t (m + 1) kx x (D.set c ((kx : Int) + 1)) (By.set c (x : Int)) (P ++ [(kx + 1, c)]) := by
  have hb := h.b
  have hnew : ∀ (i k : Nat), P[i]? ≠ some (k, c) := fun i k e => by
    have := (hb.q i k c e).2.1
    rw [hd] at this; simp at this; omega
  have old : ∀ (i : Nat) y, P[i]? = some y → (P ++ [(kx + 1, c)])[i]? = some y := fun i y hy => by rw [List.getElem?_append_left (List.getElem?_eq_some_iff.1 hy).1]; exact hy
  have last : (P ++ [(kx + 1, c)])[P.length]? = some (kx + 1, c) := by simp
  have cases_ : ∀ (i : Nat) y, (P ++ [(kx + 1, c)])[i]? = some y → P[i]? = some y ∨ (i = P.length ∧ y = (kx + 1, c)) := fun i y hy => by
    rcases Nat.lt_or_ge i P.length with h1 | h1
    · rw [List.getElem?_append_left h1] at hy; exact .inl hy
    · rw [List.getElem?_append_right h1] at hy
      obtain ⟨j, hj⟩ : ∃ j, j = i - P.length := ⟨_, rfl⟩
      rw [← hj] at hy
      cases j with
      | zero => simp at hy; exact .inr ⟨by omega, hy.symm⟩
      | succ j => simp at hy
  have lt_ : ∀ (i : Nat) y, P[i]? = some y → i < P.length := fun i y hy => (List.getElem?_eq_some_iff.1 hy).1
  have htl := lt_ _ _ h.at_
  have inO : ∀ i e, inP P i e → inP (P ++ [(kx + 1, c)]) i e := fun i e ⟨j, k, h1, h2⟩ => ⟨j, k, h1, old _ _ h2⟩
  have hDl : c < D.length := by rw [hb.lenD]; exact hcn
  refine ⟨⟨by simp [hb.lenD], by simp [hb.lenB], old _ _ hb.z, fun i k e he => ?_, fun i j k l e h1 h2 => ?_, fun e d2 hd2 => ?_, fun i j k l e e' hij h1 h2 => ?_, fun i j k l e e' hi h1 h2 => ?_, fun j k u hj h1 e he => ?_, fun i k e hi h1 => ?_⟩, old _ _ h.at_, fun e he => ?_⟩
  · rcases cases_ _ _ he with h1 | ⟨rfl, h1⟩
    · obtain ⟨a1, a2, a3⟩ := hb.q _ _ _ h1
      have hne : c ≠ e := fun e2 => by subst e2; exact hnew _ _ h1
      exact ⟨a1, by rw [List.getElem?_set, if_neg hne]; exact a2, a3⟩
    · simp at h1; obtain ⟨rfl, rfl⟩ := h1
      exact ⟨hcn, by rw [List.getElem?_set, if_pos rfl, if_pos hDl]; simp, .step (hb.q _ _ _ h.at_).2.2 (List.mem_of_getElem? hc)⟩
  · rcases cases_ _ _ h1 with a | ⟨a, b⟩ <;> rcases cases_ _ _ h2 with a' | ⟨a', b'⟩
    · exact hb.inj _ _ _ _ _ a a'
    · simp at b'; rw [b'.2] at a; exact absurd a (hnew _ _)
    · simp at b; rw [b.2] at a'; exact absurd a' (hnew _ _)
    · omega
  · rw [List.getElem?_set] at hd2
    split at hd2
    · rename_i e2; subst e2; exact .inr ⟨_, _, last⟩
    · rcases hb.on _ _ hd2 with a | ⟨i, k, a⟩
      · exact .inl a
      · exact .inr ⟨i, k, old _ _ a⟩
  · rcases cases_ _ _ h1 with a | ⟨a, b⟩ <;> rcases cases_ _ _ h2 with a' | ⟨a', b'⟩
    · exact hb.mono _ _ _ _ _ _ hij a a'
    · simp at b'; have := hb.span _ _ _ _ _ _ (Nat.le_refl _) h.at_ a; omega
    · have := lt_ _ _ a'; omega
    · simp at b b'; omega
  · rcases cases_ _ _ h1 with a | ⟨a, b⟩ <;> rcases cases_ _ _ h2 with a' | ⟨a', b'⟩
    · exact hb.span _ _ _ _ _ _ hi a a'
    · simp at b'; have := hb.mono _ _ _ _ _ _ hi h.at_ a; omega
    · simp at b; have := hb.span _ _ _ _ _ _ (Nat.le_refl _) h.at_ a'; omega
    · simp at b b'; omega
  · rcases cases_ _ _ h1 with a | ⟨a, b⟩
    · obtain ⟨i, k', h3, h4⟩ := hb.cl _ _ _ hj a e he
      exact ⟨i, k', old _ _ h3, h4⟩
    · omega
  · rcases cases_ _ _ h1 with a | ⟨a, b⟩
    · obtain ⟨j, l, u, m2, a1, a2, a3, a4, a5, a6, a7⟩ := hb.by_ _ _ _ hi a
      have hne : c ≠ e := fun e2 => by subst e2; exact hnew _ _ a
      exact ⟨j, l, u, m2, a1, old _ _ a2, a3, a4, by rw [List.getElem?_set, if_neg hne]; exact a5, fun m' c' h2 h3 => inO _ _ (a6 m' c' h2 h3), fun j' l' u' h2 h3 c' hc' => by
        rcases cases_ _ _ h3 with b | ⟨b, _⟩
        · exact inO _ _ (a7 j' l' u' h2 b c' hc')
        · have := lt_ _ _ a2; omega⟩
    · simp at b; obtain ⟨rfl, rfl⟩ := b
      subst a
      refine ⟨t, kx, x, m, htl, old _ _ h.at_, rfl, hc, by rw [List.getElem?_set, if_pos rfl, if_pos (by rw [hb.lenB]; exact hcn)], fun m' c' h2 h3 => ?_, fun j' l' u' h2 h3 c' hc' => ?_⟩
      · obtain ⟨i, k', b1, _⟩ := h.part c' (List.mem_of_getElem? (i := m') (by rw [List.getElem?_take, if_pos h2]; exact h3))
        exact ⟨i, k', lt_ _ _ b1, old _ _ b1⟩
      · rcases cases_ _ _ h3 with b | ⟨b, _⟩
        · obtain ⟨i, k', b1, _⟩ := hb.cl _ _ _ h2 b c' hc'
          exact ⟨i, k', lt_ _ _ b1, old _ _ b1⟩
        · omega
  · rw [List.take_add_one, hc] at he
    rcases List.mem_append.1 he with h2 | h2
    · obtain ⟨i, k', h3, h4⟩ := h.part e h2
      exact ⟨i, k', old _ _ h3, h4⟩
    · simp at h2; subst h2; exact ⟨_, _, last, Nat.le_refl _⟩
theorem BfK.done (h : BfK st s n t (st x).length kx x D By P) : BfI st s n (t + 1) D By P :=
  { h.b with
    span := fun i j k l c e hi h1 h2 => h.b.span i j k l c e (by omega) h1 h2
    cl := fun j k u hj h1 c hc => by
      rcases Nat.lt_or_ge j t with h2 | h2
      · exact h.b.cl j k u h2 h1 c hc
      · obtain rfl : j = t := by omega
        rw [h.at_] at h1; cases h1
        exact h.part c (by rw [List.take_length]; exact hc) }
theorem BfI.reach (h : BfI st s n t D By P) (ht : P.length ≤ t) {k c : Nat} (hw : Wk st s k c) : ∃ i k' : Nat, P[i]? = some (k', c) ∧ k' ≤ k := by
  induction hw with
  | nil => exact ⟨0, 0, h.z, Nat.le_refl _⟩
  | step _ hc ih =>
    obtain ⟨i, k', h1, h2⟩ := ih
    obtain ⟨i2, k2, h3, h4⟩ := h.cl i k' _ (by have := (List.getElem?_eq_some_iff.1 h1).1; omega) h1 _ hc
    exact ⟨i2, k2, h3, by omega⟩
theorem BfI.isD (h : BfI st s n t D By P) (ht : P.length ≤ t) {c : Nat} {d : Int} (hd : D[c]? = some d) : IsD st s c d := by
  rcases h.on c d hd with h1 | ⟨i, k, h1⟩
  · refine .inl ⟨h1, fun k hw => ?_⟩
    obtain ⟨i, k', h2, _⟩ := h.reach ht hw
    have := (h.q _ _ _ h2).2.1
    rw [hd] at this; simp at this; omega
  · obtain ⟨_, h2, h3⟩ := h.q _ _ _ h1
    rw [hd] at h2; cases h2
    refine .inr ⟨k, rfl, h3, fun k' hw => ?_⟩
    obtain ⟨i2, k2, h4, h5⟩ := h.reach ht hw
    have := (h.q _ _ _ h4).2.1
    rw [hd] at this; simp at this; omega
theorem BfI.key (h : BfI st s n t D By P) : ∀ (i k c : Nat), P[i]? = some (k, c) → k ≤ i := by
  intro i
  induction i using Nat.strongRecOn with
  | _ i ih =>
    intro k c hi
    rcases Nat.eq_zero_or_pos i with rfl | h0
    · rw [h.z] at hi; cases hi; exact Nat.le_refl _
    · obtain ⟨j, l, u, m, h1, h2, h3, _⟩ := h.by_ _ _ _ h0 hi
      have := ih j h1 l u h2
      omega
theorem BfI.len (h : BfI st s n t D By P) : P.length ≤ n := by
  have : (P.map Prod.snd).Nodup := by
    rw [List.nodup_iff_pairwise_ne, List.pairwise_iff_getElem]
    intro i j hi hj hij e
    simp at hi hj e
    have := h.inj i j P[i].1 P[j].1 P[i].2 (List.getElem?_eq_getElem hi) (by rw [e]; exact List.getElem?_eq_getElem hj)
    omega
  have h2 : ∀ x ∈ P.map Prod.snd, x < n := fun x hx => by
    rw [List.mem_map] at hx
    obtain ⟨⟨k, c⟩, hy, rfl⟩ := hx
    obtain ⟨i, hi⟩ := List.mem_iff_getElem?.1 hy
    exact (h.q i k c hi).1
  have h3 := List.Nodup.length_le_of_subset this (l₂ := List.range n) (fun x hx => by simpa using h2 x hx)
  simpa using h3
end
/-- The heap's entries. -/
def entP (P : List (Nat × Nat)) : List Ent := P.mapIdx fun i y => ⟨(y.1 : Int), (y.2 : Int), i⟩
theorem entP_len (P : List (Nat × Nat)) : (entP P).length = P.length := by simp [entP]
theorem entP_get (P : List (Nat × Nat)) (i : Nat) : (entP P)[i]? = P[i]?.map fun y => ⟨(y.1 : Int), (y.2 : Int), i⟩ := by simp [entP]
theorem entP_app (P : List (Nat × Nat)) (k c : Nat) : entP (P ++ [(k, c)]) = entP P ++ [⟨(k : Int), (c : Int), P.length⟩] := by simp [entP, List.mapIdx_append]
theorem BfI.pop {st : Nat → List Nat} {s n t : Nat} {D By : List Int} {P : List (Nat × Nat)} {M M' : List Ent} {a : Ent} (h : BfI st s n t D By P) (hM : M.Perm ((entP P).drop t)) (hp : M.Perm (a :: M')) (hmin : ∀ y ∈ M', ¬ y.lt a) :
    ∃ kx x, P[t]? = some (kx, x) ∧ a = ⟨(kx : Int), (x : Int), t⟩ ∧ M'.Perm ((entP P).drop (t + 1)) := by
  have hl := (hM.symm.trans hp).length_eq
  simp [entP_len] at hl
  obtain ⟨⟨kx, x⟩, hx⟩ : ∃ y, P[t]? = some y := ⟨_, List.getElem?_eq_getElem (by omega)⟩
  have he : (entP P)[t]? = some ⟨(kx : Int), (x : Int), t⟩ := by rw [entP_get, hx]; rfl
  have hd : (entP P).drop t = ⟨(kx : Int), (x : Int), t⟩ :: (entP P).drop (t + 1) := by
    have hlt : t < (entP P).length := (List.getElem?_eq_some_iff.1 he).1
    rw [List.drop_eq_getElem_cons hlt]
    congr 1
    exact (List.getElem?_eq_some_iff.1 he).2
  have hpp := (hM.symm.trans hp)
  rw [hd] at hpp
  have ha : a = ⟨(kx : Int), (x : Int), t⟩ := by
    have m1 : (⟨(kx : Int), (x : Int), t⟩ : Ent) ∈ a :: M' := hpp.subset (by simp)
    rcases List.mem_cons.1 m1 with e | m1
    · exact e.symm
    · exfalso
      refine hmin _ m1 ?_
      have m2 : a ∈ (⟨(kx : Int), (x : Int), t⟩ : Ent) :: (entP P).drop (t + 1) := hpp.symm.subset (by simp)
      rcases List.mem_cons.1 m2 with e | m2
      · exfalso
        obtain ⟨j, hj⟩ := List.mem_iff_getElem?.1 m1
        rw [e] at hpp
        have m3 : (⟨(kx : Int), (x : Int), t⟩ : Ent) ∈ (entP P).drop (t + 1) := (hpp.cons_inv).symm.subset m1
        obtain ⟨j, hj⟩ := List.mem_iff_getElem?.1 m3
        rw [List.getElem?_drop, entP_get] at hj
        rcases hq : P[t + 1 + j]? with _ | y
        · rw [hq] at hj; simp at hj
        · rw [hq] at hj; simp at hj; omega
      · obtain ⟨j, hj⟩ := List.mem_iff_getElem?.1 m2
        rw [List.getElem?_drop, entP_get] at hj
        rcases hq : P[t + 1 + j]? with _ | ⟨k2, c2⟩
        · rw [hq] at hj; simp at hj
        · rw [hq] at hj
          simp at hj
          rw [← hj]
          have := h.mono t (t + 1 + j) _ _ _ _ (by omega) hx hq
          unfold Ent.lt
          simp only
          omega
  refine ⟨kx, x, hx, ha, ?_⟩
  rw [ha] at hpp
  exact hpp.cons_inv.symm
end Go.Proofs.YtgdokpfepfmbmaaDoor

namespace Go.Proofs.YtgdokpfepfmbmaaDoor
set_option linter.unusedVariables false
set_option linter.unusedSimpArgs false
open Go.RowKit

/-- An entry's cells. -/
def HK : Kd Ent := { sz := 3, enc := fun x => [.int .i64 x.k, .int .i64 x.v, .int .u64 (x.q : Int)], len := fun _ => rfl, one := by intro a v hv; simp at hv; rcases hv with rfl | rfl | rfl <;> rfl, pos := by decide }
theorem elH : ElT Tryd.prog 154 159 HK 24 := ElT.of (z := .agg #[.int .i64 0, .int .i64 0, .int .u64 0]) (by kernel_rfl) (by kernel_rfl) (by kernel_rfl)
def Ent.val (x : Ent) : Value := .agg #[.int .i64 x.k, .int .i64 x.v, .int .u64 (x.q : Int)]
theorem encs_ext {α : Type} (K : Kd α) : ∀ (E : List α) (L : List Value), L.length = E.length * K.sz → (∀ (i : Nat) x (j : Nat), E[i]? = some x → j < K.sz → L[i * K.sz + j]? = (K.enc x)[j]?) → L = K.encs E := by
  intro E L hl h
  apply List.ext_getElem?
  intro m
  by_cases hm : m < E.length * K.sz
  · have hp := K.pos
    have hq : m / K.sz < E.length := by rw [Nat.div_lt_iff_lt_mul hp]; exact hm
    obtain ⟨x, hx⟩ : ∃ x, E[m / K.sz]? = some x := ⟨_, List.getElem?_eq_getElem hq⟩
    have hr := Nat.mod_lt m hp
    have h1 := h (m / K.sz) x (m % K.sz) hx hr
    have h2 := K.encs_get E (m / K.sz) (m % K.sz) x hx hr
    rw [Nat.div_add_mod' m K.sz] at h1 h2
    rw [h1, h2]
  · rw [List.getElem?_eq_none (by omega), List.getElem?_eq_none (by rw [K.length_encs]; omega)]
/-- An element of three cells is written. -/
theorem Own.set3 {w : World} {e : TypeId} {g n cap : Nat} {E : List Ent} (h : Own HK e w (.slice (some ⟨g, 0, none⟩) n cap) E) {i : Nat} (hi : i < E.length) (x : Ent) :
    Own HK e (((w.setCell ⟨g, i * 3, none⟩ (.int .i64 x.k)).setCell ⟨g, i * 3 + 1, none⟩ (.int .i64 x.v)).setCell ⟨g, i * 3 + 2, none⟩ (.int .u64 (x.q : Int))) (.slice (some ⟨g, 0, none⟩) n cap) (E.set i x) := by
  rcases h with ⟨hv, _⟩ | ⟨g', cap', cur, hv, hb, hlc, hcm, hsz, htake⟩
  · simp at hv
  simp only [Value.slice.injEq, Option.some.injEq, Addr.mk.injEq] at hv
  obtain ⟨⟨rfl, _, _⟩, rfl, rfl⟩ := hv
  have hsz3 : cur.size = cap * 3 := hsz
  have hic : i * 3 + 2 < cur.size := by rw [hsz3]; omega
  refine .inr ⟨g, cap, _, by rw [List.length_set], blk_set (blk_set (blk_set hb _ _) _ _) _ _, by rw [List.length_set]; exact hlc, hcm, by simp; exact hsz, ?_⟩
  refine encs_ext HK _ _ ?_ fun m y j hy hj => ?_
  · have h3 : HK.sz = 3 := rfl
    rw [List.length_take, List.length_set, h3]
    have : ((((cur.setIfInBounds (i * 3) (.int .i64 x.k)).setIfInBounds (i * 3 + 1) (.int .i64 x.v)).setIfInBounds (i * 3 + 2) (.int .u64 (x.q : Int))).toList).length = cap * 3 := by simp [hsz3]
    rw [this]; omega
  · have h3 : HK.sz = 3 := rfl
    rw [h3] at hj ⊢
    have hml := (List.getElem?_eq_some_iff.1 hy).1
    rw [List.length_set] at hml
    rw [List.getElem?_take, List.length_set, if_pos (show m * 3 + j < E.length * 3 by omega)]
    rw [Array.getElem?_toList, Array.getElem?_setIfInBounds, Array.getElem?_setIfInBounds, Array.getElem?_setIfInBounds]
    rw [List.getElem?_set] at hy
    by_cases hmi : i = m
    · subst hmi
      rw [if_pos rfl, if_pos hi] at hy
      cases hy
      obtain rfl | rfl | rfl : j = 0 ∨ j = 1 ∨ j = 2 := by omega
      · rw [if_neg (by omega), if_neg (by omega), if_pos (by omega), if_pos (by omega)]; rfl
      · rw [if_neg (by omega), if_pos (by omega), if_pos (by simp; omega)]; rfl
      · rw [if_pos (by omega), if_pos (by simp; omega)]; rfl
    · rw [if_neg hmi] at hy
      rw [if_neg (by omega), if_neg (by omega), if_neg (by omega)]
      have h4 := HK.encs_get E m j y hy (by rw [h3]; exact hj)
      rw [← htake, List.getElem?_take, h3, if_pos (show m * 3 + j < E.length * 3 by omega), Array.getElem?_toList] at h4
      exact h4
/-- A heap. -/
structure HpR (p : Nat) (V : Value) (nx : Nat) (E : List Ent) (w : World) : Prop where
  blk : w.heap[p]? = some (.cells #[V, .int .u64 (nx : Int)] 157 (0, 0))
  own : Own HK 159 w V E
  ne : V.ownBlock ≠ some p
section
variable {p nx : Nat} {V : Value} {E : List Ent} {w w' : World}
theorem HpR.no (h : HpR p V nx E w) (hk : Kp No w w') : HpR p V nx E w' := ⟨hk.blk h.blk (no_no _), h.own.kpNo hk, h.ne⟩
theorem HpR.kp {S : Nat → Prop} (h : HpR p V nx E w) (hk : Kp S w w') (h1 : ¬ S p) (h2 : ∀ g, V.ownBlock = some g → ¬ S g) : HpR p V nx E w' := ⟨hk.blk h.blk h1, h.own.kp hk h2, h.ne⟩
theorem HpR.c0 (h : HpR p V nx E w) : w.cell? ⟨p, 0, none⟩ = some V := blk_cell h.blk 0
theorem HpR.c1 (h : HpR p V nx E w) : w.cell? ⟨p, 1, none⟩ = some (.int .u64 (nx : Int)) := blk_cell h.blk 1
theorem HpR.f (h : HpR p V nx E w) (i : Nat) : w.frozen? ⟨p, i, none⟩ = false := blk_free h.blk i
theorem HpR.lt (h : HpR p V nx E w) : p < w.heap.size := lt_of_block h.blk
end
theorem ownH_at {w : World} {e : TypeId} {g n cap : Nat} {E : List Ent} (h : Own HK e w (.slice (some ⟨g, 0, none⟩) n cap) E) {i : Nat} {x : Ent} (hx : E[i]? = some x) :
    w.cell? ⟨g, i * 3, none⟩ = some (.int .i64 x.k) ∧ w.cell? ⟨g, i * 3 + 1, none⟩ = some (.int .i64 x.v) ∧ w.cell? ⟨g, i * 3 + 2, none⟩ = some (.int .u64 (x.q : Int)) := by
  have h0 := h.rd.at rfl hx (j := 0) rfl
  have h1 := h.rd.at rfl hx (j := 1) rfl
  have h2 := h.rd.at rfl hx (j := 2) rfl
  simp only [HK, Nat.zero_add, Nat.add_zero] at h0 h1 h2
  exact ⟨h0, h1, h2⟩
theorem ownH_f {w : World} {e : TypeId} {g n cap : Nat} {E : List Ent} (h : Own HK e w (.slice (some ⟨g, 0, none⟩) n cap) E) (i : Nat) : w.frozen? ⟨g, i, none⟩ = false := by
  rcases h with ⟨hv, _⟩ | ⟨g', cap', cur, hv, hb, _⟩
  · simp at hv
  simp only [Value.slice.injEq, Option.some.injEq, Addr.mk.injEq] at hv
  obtain ⟨⟨rfl, _⟩, _⟩ := hv
  exact blk_free hb i

set_option maxRecDepth 100000 in
theorem hpless_any (a b : Ent) (t : Bool) (ht : t = decide (a.lt b)) (w : World) : Calls Tryd.prog 104 #[a.val, b.val] w fun e w' => e = .returned (.bool t) ∧ Kp No w w' := by
  have HT := Lib.hid ht
  clear ht
  obtain ⟨ak, av, aq⟩ := a
  obtain ⟨bk, bv, bq⟩ := b
  unfold Ent.val
  simp only
  have K0 := Lib.hid (((Kp.refl No w).alloc (.cells #[.int .i64 ak, .int .i64 av, .int .u64 (aq : Int)] 159)).alloc (.cells #[.int .i64 bk, .int .i64 bv, .int .u64 (bq : Int)] 159))
  by_cases h1 : ak = bk
  · subst h1
    have hb : (ak != ak) = false := by simp
    obtain ⟨s, hs⟩ : ∃ s : Bool, decide ((aq : Int) < (bq : Int)) = s := ⟨_, rfl⟩
    have HS := Lib.hid (show t = s by rw [HT.out, ← hs, Bool.eq_iff_iff]; simp [Ent.lt])
    have hs2 : decide (aq < bq) = s := by rw [← hs, Bool.eq_iff_iff]; simp
    go_enter Tryd.func104, Tryd.ntmps104
    go_wp2_with fail
    go_ret
    exact ⟨by rw [HS.out]; rfl, K0.out⟩
  · have hb : (ak != bk) = true := by simpa using h1
    obtain ⟨s, hs⟩ : ∃ s : Bool, decide (ak < bk) = s := ⟨_, rfl⟩
    have HS := Lib.hid (show t = s by rw [HT.out, ← hs, Bool.eq_iff_iff]; simp [Ent.lt, h1])
    go_enter Tryd.func104, Tryd.ntmps104
    go_wp2_with fail
    go_ret
    exact ⟨by rw [HS.out]; rfl, K0.out⟩
end Go.Proofs.YtgdokpfepfmbmaaDoor

namespace Go.Proofs.YtgdokpfepfmbmaaDoor
set_option linter.unusedVariables false
set_option linter.unusedSimpArgs false
open Go.RowKit

theorem cellSet {w : World} {p q : Addr} {x v : Value} (h : w.cell? q = some v) : ∃ v', (w.setCell p x).cell? q = some v' := by
  by_cases e : p = q
  · subst e; exact ⟨x, World.cell?_setCell_same w p x h⟩
  · exact ⟨v, (World.cell?_setCell_other w p q x e).trans h⟩
/-- What up, down and swap leave. -/
structure HpS (p : Nat) (V : Value) (nx : Nat) (E : List Ent) (w w' : World) : Prop where
  r : HpR p V nx E w'
  kp : Kp (fun k => V.ownBlock = some k) w w'
theorem HpS.trans {p nx : Nat} {V : Value} {E E' : List Ent} {a b c : World} (h : HpS p V nx E a b) (k : HpS p V nx E' b c) : HpS p V nx E' a c := ⟨k.r, h.kp.trans k.kp⟩

set_option maxHeartbeats 1000000 in
set_option maxRecDepth 100000 in
theorem hpswap_any {p nx : Nat} {V : Value} {E : List Ent} {w : World} (h : HpR p V nx E w) (i k : Nat) (a b : Ent) (ha : E[i]? = some a) (hb : E[k]? = some b) :
    Calls Tryd.prog 92 #[.pointer (some ⟨p, 0, none⟩), .int .i64 (i : Int), .int .i64 (k : Int)] w fun e w' => e = .returned (.tuple #[]) ∧ HpS p V nx (swapL E i k a b) w w' := by
  have hi := (List.getElem?_eq_some_iff.1 ha).1
  have hk := (List.getElem?_eq_some_iff.1 hb).1
  rcases h.own.b with ⟨_, rfl⟩ | ⟨g, cap, rfl, hcm, hlc, _⟩
  · simp at ha
  obtain ⟨n, hn⟩ : ∃ n, n = E.length := ⟨_, rfl⟩
  rw [← hn] at h hi hk ⊢
  have hgp : g ≠ p := fun e => h.ne (by rw [e]; rfl)
  have HH := Lib.hid h
  have HA := Lib.hid ha; have HB := Lib.hid hb
  have hiI : (i : Int) < (n : Int) := by omega
  have hkI : (k : Int) < (n : Int) := by omega
  have hp0 : w.cell? ⟨p, 0, none⟩ = some (.slice (some ⟨g, 0, none⟩) n cap) := h.c0
  obtain ⟨a0, a1, a2⟩ := ownH_at h.own ha
  obtain ⟨b0, b1, b2⟩ := ownH_at h.own hb
  have hf := ownH_f h.own
  obtain ⟨v0, c0⟩ := cellSet (p := ⟨g, i * 3, none⟩) (x := .int .i64 b.k) b0
  obtain ⟨v1', c1'⟩ := cellSet (p := ⟨g, i * 3, none⟩) (x := .int .i64 b.k) b1
  obtain ⟨v1, c1⟩ := cellSet (p := ⟨g, i * 3 + 1, none⟩) (x := .int .i64 b.v) c1'
  obtain ⟨v2', c2'⟩ := cellSet (p := ⟨g, i * 3, none⟩) (x := .int .i64 b.k) b2
  obtain ⟨v2'', c2''⟩ := cellSet (p := ⟨g, i * 3 + 1, none⟩) (x := .int .i64 b.v) c2'
  obtain ⟨v2, c2⟩ := cellSet (p := ⟨g, i * 3 + 2, none⟩) (x := .int .u64 (b.q : Int)) c2''
  clear c1' c2' c2''
  obtain ⟨wz, hwz⟩ : ∃ wz, wz = ((((((w.setCell ⟨g, i * 3, none⟩ (.int .i64 b.k)).setCell ⟨g, i * 3 + 1, none⟩ (.int .i64 b.v)).setCell ⟨g, i * 3 + 2, none⟩ (.int .u64 (b.q : Int))).setCell ⟨g, k * 3, none⟩ (.int .i64 a.k)).setCell ⟨g, k * 3 + 1, none⟩ (.int .i64 a.v)).setCell ⟨g, k * 3 + 2, none⟩ (.int .u64 (a.q : Int))) := ⟨_, rfl⟩
  have HZ := Lib.hid (show HpS p (.slice (some ⟨g, 0, none⟩) n cap) nx (swapL E i k a b) w wz by
    rw [hwz]
    have o1 := h.own.set3 (i := i) (by omega) b
    have o2 := o1.set3 (i := k) (by rw [List.length_set]; omega) a
    have st : ∀ (w1 : World) (o : Nat) (u : Value), Kp (fun j => (Value.slice (some ⟨g, 0, none⟩) n cap).ownBlock = some j) w w1 → Kp (fun j => (Value.slice (some ⟨g, 0, none⟩) n cap).ownBlock = some j) w (w1.setCell ⟨g, o, none⟩ u) := fun w1 o u hk => hk.setCell (p := ⟨g, o, none⟩) (fun _ => rfl) u
    have kk := st _ (k * 3 + 2) (.int .u64 (a.q : Int)) (st _ (k * 3 + 1) (.int .i64 a.v) (st _ (k * 3) (.int .i64 a.k) (st _ (i * 3 + 2) (.int .u64 (b.q : Int)) (st _ (i * 3 + 1) (.int .i64 b.v) (st _ (i * 3) (.int .i64 b.k) (Kp.refl _ w))))))
    exact ⟨⟨kk.blk h.blk (fun e => hgp (by simpa [Value.ownBlock] using e)), o2, h.ne⟩, kk⟩)
  have HWZ := Lib.hid hwz
  have hf' : ∀ i, w.frozen? ⟨g, i, none⟩ = false := hf
  clear ha hb h hi hk hn hwz hf HA HB HH
  go_enter Tryd.func92, Tryd.ntmps92
  go_wp2_with fail
  go_region
  all_goals
    go_end0
    refine ⟨rfl, ?_⟩
    rw [← HWZ.out]
    exact ⟨HZ.out.r.no (Kp.refl _ _).drew, HZ.out.kp.drew⟩
end Go.Proofs.YtgdokpfepfmbmaaDoor

namespace Go.Proofs.YtgdokpfepfmbmaaDoor
set_option linter.unusedVariables false
set_option linter.unusedSimpArgs false
open Go.RowKit

theorem HpS.refl {p nx : Nat} {V : Value} {E : List Ent} {w : World} (h : HpR p V nx E w) : HpS p V nx E w w := ⟨h, Kp.refl _ _⟩
theorem HpS.no {p nx : Nat} {V : Value} {E : List Ent} {w w1 w2 : World} (h : HpS p V nx E w w1) (k : Kp No w1 w2) : HpS p V nx E w w2 := ⟨h.r.no k, h.kp.no k⟩
set_option maxHeartbeats 1000000 in
set_option maxRecDepth 100000 in
theorem hpup_any {p nx : Nat} {V : Value} {E : List Ent} {w : World} (h : HpR p V nx E w) (i : Nat) (hi : i < E.length) (hE : E.length ≤ 4000000000) (hu : UpI E i) :
    Calls Tryd.prog 90 #[.pointer (some ⟨p, 0, none⟩), .int .i64 (i : Int)] w fun e w' => e = .returned (.tuple #[]) ∧ ∃ E', E'.Perm E ∧ HeapO E' ∧ HpS p V nx E' w w' := by
  rcases h.own.b with ⟨_, rfl⟩ | ⟨g, cap, rfl, hcm, hlc, _⟩
  · simp at hi
  obtain ⟨n, hn⟩ : ∃ n, n = E.length := ⟨_, rfl⟩
  rw [← hn] at h hi hE ⊢
  have HH := Lib.hid h; have HU := Lib.hid hu; have HN := Lib.hid hn
  clear h hu hn hcm hlc
  go_enter Tryd.func90, Tryd.ntmps90
  go_wp2_with fail
  go_loopg [1] (i + 1) (fun g2 iv wx => ∃ (k : Nat) (E' : List Ent), g2 = k + 1 ∧ iv = .int .i64 k ∧ k < n ∧ E'.Perm E ∧ UpI E' k ∧ HpS p (.slice (some ⟨g, 0, none⟩) n cap) nx E' w wx)
  case atStart => exact ⟨i, E, rfl, rfl, hi, List.Perm.refl _, HU.out, HpS.refl HH.out⟩
  case round =>
    obtain ⟨k, E', hg2, rfl, hk, hp, hu, hs⟩ := hrel
    have HP := Lib.hid hp; have HUK := Lib.hid hu; have HS := Lib.hid hs
    have hl : E'.length = n := by rw [hp.length_eq, HN.out]
    have HL := Lib.hid hl
    have hkI : (k : Int) < (n : Int) := by omega
    have hp0 : wr.cell? ⟨p, 0, none⟩ = some (.slice (some ⟨g, 0, none⟩) n cap) := hs.r.c0
    obtain ⟨a, ha⟩ : ∃ a, E'[k]? = some a := ⟨_, List.getElem?_eq_getElem (by omega)⟩
    have HA := Lib.hid ha
    clear hp hu
    by_cases h0 : k = 0
    · have h0d : decide ((0 : Int) < (k : Int)) = false := by simp; omega
      have h0n : decide (0 < k) = false := by simp; omega
      have HO := Lib.hid (HUK.out.done (fun a b hk0 => by omega))
      clear ha h0 hs hl
      go_wp2_with fail
      go_quiet (fail)
      go_wp2_with fail
      go_end0
      exact ⟨rfl, E', HP.out, HO.out, HS.out.no ((Kp.refl _ _).drewN _)⟩
    · obtain ⟨j, hj⟩ : ∃ j, k = j + 1 := ⟨k - 1, by omega⟩
      obtain ⟨q, hq⟩ : ∃ q, q = (k - 1) / 2 := ⟨_, rfl⟩
      have hqj : q = j / 2 := by rw [hq, hj]; rfl
      have h0I : (0 : Int) < (k : Int) := by omega
      have h0d : decide ((0 : Int) < (k : Int)) = true := by simp; omega
      have h0n : decide (0 < k) = true := by simp; omega
      have hw1 : IntKind.i64.wrap ((k : Int) - 1) = (j : Int) := by rw [IntWalk.i64_in _ (by omega)]; omega
      have hw2 : (k : Int) - 1 = (j : Int) := by omega
      have hwj : IntKind.i64.wrap (j : Int) = (j : Int) := IntWalk.i64_in _ (by omega)
      have hd1 : (j : Int).tdiv 2 = (q : Int) := by rw [Int.tdiv_eq_ediv_of_nonneg (by omega), hqj]; rfl
      have hd2 : (j : Int) / 2 = (q : Int) := by rw [hqj]; rfl
      have hwq : IntKind.i64.wrap (q : Int) = (q : Int) := IntWalk.i64_in _ (by omega)
      have hqI : (q : Int) < (n : Int) := by omega
      have hq0I : (0 : Int) ≤ (q : Int) := by omega
      have hk0I : (0 : Int) ≤ (k : Int) := by omega
      have hj0I : (0 : Int) ≤ (j : Int) := by omega
      have h20 : ((2 : Int) == 0) = false := rfl
      obtain ⟨b, hb⟩ : ∃ b, E'[q]? = some b := ⟨_, List.getElem?_eq_getElem (by omega)⟩
      have HB := Lib.hid hb
      obtain ⟨a0, a1, a2⟩ := ownH_at hs.r.own ha
      obtain ⟨b0, b1, b2⟩ := ownH_at hs.r.own hb
      obtain ⟨t, ht⟩ : ∃ t, t = decide (a.lt b) := ⟨_, rfl⟩
      have HLS := Lib.hid (hpless_any a b t ht)
      have HT := Lib.hid ht
      unfold Ent.val at HLS
      have HQ := Lib.hid hq
      have HK0 := Lib.hid (show 0 < k by omega)
      clear ha hb ht hs hq hqj hj h0 hl
      have p0 : wr.drew.cell? ⟨p, 0, none⟩ = some (.slice (some ⟨g, 0, none⟩) n cap) := hp0
      have a0' : wr.drew.cell? ⟨g, k * 3, none⟩ = some (.int .i64 a.k) := a0
      have a1' : wr.drew.cell? ⟨g, k * 3 + 1, none⟩ = some (.int .i64 a.v) := a1
      have a2' : wr.drew.cell? ⟨g, k * 3 + 2, none⟩ = some (.int .u64 (a.q : Int)) := a2
      have b0' : wr.drew.cell? ⟨g, q * 3, none⟩ = some (.int .i64 b.k) := b0
      have b1' : wr.drew.cell? ⟨g, q * 3 + 1, none⟩ = some (.int .i64 b.v) := b1
      have b2' : wr.drew.cell? ⟨g, q * 3 + 2, none⟩ = some (.int .u64 (b.q : Int)) := b2
      go_wp2_with fail
      go_region_held3 (fun w' => w'.cell? ⟨p, 0, none⟩ = some (.slice (some ⟨g, 0, none⟩) n cap) ∧ w'.cell? ⟨g, k * 3, none⟩ = some (.int .i64 a.k) ∧ w'.cell? ⟨g, k * 3 + 1, none⟩ = some (.int .i64 a.v) ∧ w'.cell? ⟨g, k * 3 + 2, none⟩ = some (.int .u64 (a.q : Int)) ∧ w'.cell? ⟨g, q * 3, none⟩ = some (.int .i64 b.k) ∧ w'.cell? ⟨g, q * 3 + 1, none⟩ = some (.int .i64 b.v) ∧ w'.cell? ⟨g, q * 3 + 2, none⟩ = some (.int .u64 (b.q : Int)))
        (first | exact ⟨by assumption, by assumption, by assumption, by assumption, by assumption, by assumption, by assumption⟩ | exact ⟨p0, a0', a1', a2', b0', b1', b2'⟩)
        (first
          | (go_at_call 104; refine (HLS.out wr.drew).mono ?_; rintro e w8 ⟨rfl, k8⟩; have t0 := k8.cellS p0 (no_no _); have t1 := k8.cellS a0' (no_no _); have t2 := k8.cellS a1' (no_no _); have t3 := k8.cellS a2' (no_no _); have t4 := k8.cellS b0' (no_no _); have t5 := k8.cellS b1' (no_no _); have t6 := k8.cellS b2' (no_no _); have K8 := Lib.hid ((Kp.refl No wr).drew.no k8); clear k8))
      have S8 := Lib.hid (HS.out.no K8.out)
      clear p0 a0' a1' a2' b0' b1' b2' t0 t1 t2 t3 t4 t5 t6 hp0 a0 a1 a2 b0 b1 b2
      cases t with
      | true =>
        have hlt : a.lt b := by have := HT.out; simpa using this.symm
        have UN := Lib.hid (HUK.out.step HK0.out HA.out (by rw [← HQ.out]; exact HB.out) hlt)
        rw [← HQ.out] at UN
        have PN := Lib.hid ((swapL_perm HA.out HB.out).trans HP.out)
        clear hlt
        go_wp2_with (go_at_call 92; refine (hpswap_any S8.out.r k q a b HA.out HB.out).mono ?_; rintro e w9 ⟨rfl, s9⟩; have S9 := Lib.hid (S8.out.trans s9); clear s9)
        go_roundg (q + 1)
        case measure => have := HQ.out; have := HK0.out; omega
        case rel => exact ⟨q, _, rfl, rfl, by omega, PN.out, UN.out, S9.out⟩
      | false =>
        have hlt : ¬ a.lt b := by have := HT.out; simpa using this
        have HO := Lib.hid (HUK.out.done (fun x y _ hx hy => by
          have h1 := HA.out; have h2 := HB.out
          rw [HQ.out] at h2
          rw [hx] at h1; rw [hy] at h2
          cases h1; cases h2; exact hlt))
        clear hlt
        go_wp2_with fail
        go_end0
        exact ⟨rfl, E', HP.out, HO.out, S8.out⟩
end Go.Proofs.YtgdokpfepfmbmaaDoor

namespace Go.Proofs.YtgdokpfepfmbmaaDoor
set_option linter.unusedVariables false
set_option linter.unusedSimpArgs false
open Go.RowKit

theorem stp_app {α : Type} {K : Kd α} {P : Program} {t e : TypeId} {bytes : Nat} {w : World} (E : ElT P t e K bytes) {ops : Array Oper} {o : Oper} {a : Act} {K' : Act → World → Prop} {Q : Exit → Act → World → Prop} {Ex : Prop} (hgd : o.guard = none) (s x : Operand)
    (ho : o.op = .call { callee := .builtin .append, args := #[s, x], argTypes := #[t, t] }) {v xv : Value} {l m : List α} (hs : a.eval s = v) (hxv : a.eval x = xv)
    (hown : Own K e w v l) (hx : Rd K w xv m) (h63 : l.length + m.length ≤ maxLen) (hbytes : (l.length + m.length) * bytes ≤ 140737488355328)
    (h : ∀ v' w', Own K e w' v' (l ++ m) → Kp (fun k => v.ownBlock = some k) w w' → (∀ g, v'.ownBlock = some g → v.ownBlock = some g ∨ w.heap.size ≤ g) → K' (a.put o.dst v') w') : if Region.wanted o (yielded ops a.tmps) = true then Oper.wp P o a w K' Q else Ex := by
  have hw : Region.wanted o (yielded ops a.tmps) = true := by simp [Region.wanted, hgd]
  rw [if_pos hw]
  obtain ⟨v', w', hr, h2, h3, h4⟩ := run_append E o.type hown hx h63 hbytes
  unfold Oper.wp execOp
  simp only [ho, resolve, invoke, builtin, Sem.run_bind, Sem.run_pure, Result.andThen_ok, List.map_toArray, List.map_cons, List.map_nil, hs, hxv, hr]
  exact h v' w' h2 h3 h4
end Go.Proofs.YtgdokpfepfmbmaaDoor

namespace Go.Proofs.YtgdokpfepfmbmaaDoor
set_option linter.unusedVariables false
set_option linter.unusedSimpArgs false
open Go.RowKit

/-- What Push leaves. -/
structure HpP (p : Nat) (V V' : Value) (w w' : World) : Prop where
  kp : Kp (fun k => k = p ∨ V.ownBlock = some k) w w'
  ge : ∀ g, V'.ownBlock = some g → V.ownBlock = some g ∨ w.heap.size ≤ g
/-- A heap holds just M, in any order. -/
def HpM (p : Nat) (V : Value) (nx : Nat) (M : List Ent) (w : World) : Prop := ∃ E, E.Perm M ∧ HeapO E ∧ HpR p V nx E w
theorem rdH_one {w : World} (x : Ent) {b : Nat} (hb : b = w.heap.size) : Rd HK (w.alloc (.cells #[.int .i64 x.k, .int .i64 x.v, .int .u64 (x.q : Int)] 159)) (.slice (some ⟨b, 0, none⟩) 1 1) [x] :=
  Rd.litAt HK 159 w _ [x] rfl (by unfold maxLen; rw [List.length_singleton]; omega) _ _ hb rfl

set_option maxHeartbeats 1000000 in
set_option maxRecDepth 100000 in
theorem hppush_any {p nx : Nat} {V : Value} {M : List Ent} {w : World} (h : HpM p V nx M w) (hM : M.length ≤ 2000000000) (hnx : nx ≤ 2000000000) (k v : Int) :
    Calls Tryd.prog 70 #[.pointer (some ⟨p, 0, none⟩), .agg #[.int .i64 k, .int .i64 v]] w fun e w' => e = .returned (.tuple #[]) ∧ ∃ V', HpM p V' (nx + 1) (M ++ [⟨k, v, nx⟩]) w' ∧ HpP p V V' w w' := by
  obtain ⟨E, hp, ho, hr⟩ := h
  obtain ⟨A, c, rfl⟩ := hr.own.rd.shape
  obtain ⟨n, hn⟩ : ∃ n, n = E.length := ⟨_, rfl⟩
  rw [← hn] at hr ⊢
  have hn1 : n ≤ 2000000000 := by rw [hn, hp.length_eq]; exact hM
  have HP := Lib.hid hp; have HO := Lib.hid ho; have HN := Lib.hid hn
  obtain ⟨w1, hw1⟩ : ∃ w1, w1 = w.alloc (.cells #[.int .i64 k, .int .i64 v] 126) := ⟨_, rfl⟩
  have HR1 := Lib.hid (show HpR p (.slice A n c) nx E w1 by rw [hw1]; exact hr.no ((Kp.refl _ _).alloc _))
  have K1 := Lib.hid (show Kp No w w1 by rw [hw1]; exact (Kp.refl _ _).alloc _)
  have HW1 := Lib.hid hw1
  have HL := Lib.hid (show p < w.heap.size from hr.lt)
  have HOW := Lib.hid (fun g (hg : (Value.slice A n c).ownBlock = some g) => hr.own.lt hg)
  have hx0 : w1.cell? ⟨w.heap.size, 0, none⟩ = some (.int .i64 k) := by rw [hw1]; exact blk_cell (blk_new w _) 0
  have hx1 : w1.cell? ⟨w.heap.size, 1, none⟩ = some (.int .i64 v) := by rw [hw1]; exact blk_cell (blk_new w _) 1
  have p0 : w1.cell? ⟨p, 0, none⟩ = some (.slice A n c) := HR1.out.c0
  have p1 : w1.cell? ⟨p, 1, none⟩ = some (.int .u64 (nx : Int)) := HR1.out.c1
  have p0a : ∀ o, (w1.alloc o).cell? ⟨p, 0, none⟩ = some (.slice A n c) := fun o => (HR1.out.no ((Kp.refl _ _).alloc o)).c0
  have hwn : IntKind.u64.wrap ((nx : Int) + 1) = (nx : Int) + 1 := IntWalk.u64_in _ (by omega)
  clear hr hp ho hn hw1
  go_enter Tryd.func70, Tryd.ntmps70
  go_wp2_with fail
  rw [← HW1.out]
  go_upto_region 2 with fail
  go_cut [6, 7, 8, 9, 10, 11, 12, 13, 14, 15, 16, 17, 18, 19, 20] (fun _ _ _ _ _ _ _ _ _ _ _ _ _ _ _ wx => ∃ A3 c3, HpR p (.slice A3 (n + 1) c3) nx (E ++ [⟨k, v, nx⟩]) wx ∧ HpP p (.slice A n c) (.slice A3 (n + 1) c3) w wx)
  case first =>
    go_region_law (first
      | (refine stp_app elH rfl (.tmp 10) (.tmp 17) rfl rfl rfl (v := .slice A n c) (l := E) (m := [⟨k, v, nx⟩]) (HR1.out.no ((Kp.refl No w1).alloc _)).own (rdH_one ⟨k, v, nx⟩ rfl) (by rw [← HN.out]; unfold maxLen; rw [List.length_singleton]; omega) (by rw [← HN.out, List.length_singleton]; omega) ?_; intro v3 w3 m1 m2 m3; obtain ⟨A3, c3, rfl⟩ := m1.rd.shape; have B3 := m2.blk (HR1.out.no ((Kp.refl No w1).alloc _)).blk HR1.out.ne; have F3 : w3.frozen? ⟨p, 0, none⟩ = false := blk_free B3 0; have C3 : w3.cell? ⟨p, 0, none⟩ = some (.slice A n c) := blk_cell B3 0; rw [List.length_append, List.length_singleton, ← HN.out] at m1 m3 ⊢; have M1 := Lib.hid m1; have M2 := Lib.hid m2; have M3 := Lib.hid m3; have MB := Lib.hid B3; clear m1 m2 m3 B3))
    all_goals
      have hne3 : (Value.slice A3 (n + 1) c3).ownBlock ≠ some p := fun e => by
        rcases M3.out p e with h | h
        · exact HR1.out.ne h
        · have := HL.out; have := K1.out.size; have h : w1.heap.size + 1 ≤ p := by simpa using h
          omega
      have kq : Kp (fun j => j = p ∨ (Value.slice A n c).ownBlock = some j) w w3 := (((K1.out.alloc _).drew).mono (fun _ _ e => e.elim)).trans' M2.out (fun j _ e => .inr e)
      have kr : Kp (fun j => j = p ∨ (Value.slice A n c).ownBlock = some j) w (w3.setCell ⟨p, 0, none⟩ (.slice A3 (n + 1) c3)) := kq.setCell (p := ⟨p, 0, none⟩) (fun _ => .inl rfl) _
      have RR : HpR p (.slice A3 (n + 1) c3) nx (E ++ [⟨k, v, nx⟩]) (w3.setCell ⟨p, 0, none⟩ (.slice A3 (n + 1) c3)) :=
        ⟨by have := blk_set MB.out 0 (.slice A3 (n + 1) c3); simpa using this, M1.out.kp ((Kp.refl (fun j => j = p) w3).setCell (p := ⟨p, 0, none⟩) (fun _ => rfl) _) (fun g hg e => hne3 (by rw [hg, e])), hne3⟩
      have PP : HpP p (.slice A n c) (.slice A3 (n + 1) c3) w (w3.setCell ⟨p, 0, none⟩ (.slice A3 (n + 1) c3)) := ⟨kr, fun g hg => by
        rcases M3.out g hg with h | h
        · exact .inl h
        · have := K1.out.size; have h : w1.heap.size + 1 ≤ g := by simpa using h
          exact .inr (by omega)⟩
      have RR := Lib.hid RR; have PP := Lib.hid PP
      clear kq kr hne3 p0 p1 p0a hx0 hx1
      go_wp2_with fail
      go_meet
      exact ⟨A3, c3, ⟨RR.out.blk, RR.out.own.kpNo (Kp.refl _ _), RR.out.ne⟩, ⟨PP.out.kp.drewN 0, PP.out.ge⟩⟩
  case rest =>
    obtain ⟨A3, c3, hr, hp3⟩ := hcut
    have HR := Lib.hid hr; have HPP := Lib.hid hp3
    have q0 : wc.cell? ⟨p, 0, none⟩ = some (.slice A3 (n + 1) c3) := hr.c0
    have q1 : wc.cell? ⟨p, 1, none⟩ = some (.int .u64 (nx : Int)) := hr.c1
    have qf : wc.frozen? ⟨p, 1, none⟩ = false := hr.f 1
    have R2 := Lib.hid (show HpR p (.slice A3 (n + 1) c3) (nx + 1) (E ++ [⟨k, v, nx⟩]) (wc.setCell ⟨p, 1, none⟩ (.int .u64 ((nx : Int) + 1))) from
      ⟨by have := blk_set hr.blk 1 (.int .u64 ((nx : Int) + 1)); simpa using this, hr.own.kp ((Kp.refl (fun j => j = p) wc).setCell (p := ⟨p, 1, none⟩) (fun _ => rfl) _) (fun g hg e => hr.ne (by rw [hg, e])), hr.ne⟩)
    have q0' : (wc.setCell ⟨p, 1, none⟩ (.int .u64 ((nx : Int) + 1))).cell? ⟨p, 0, none⟩ = some (.slice A3 (n + 1) c3) := R2.out.c0
    have hwl : IntKind.i64.wrap (((n + 1 : Nat) : Int) - 1) = (n : Int) := by rw [IntWalk.i64_in _ (by omega)]; omega
    have hwl2 : IntKind.i64.wrap ((n : Int) + 1 - 1) = (n : Int) := by rw [IntWalk.i64_in _ (by omega)]; omega
    clear hr hp3 p0 p1 p0a hx0 hx1
    go_wp2_with fail
    refine (hpup_any R2.out n (by rw [List.length_append, ← HN.out]; simp) (by rw [List.length_append, ← HN.out]; simp; omega) (by have := UpI.push HO.out ⟨k, v, nx⟩; rwa [← HN.out] at this)).mono ?_
    rintro e w5 ⟨rfl, E', hp5, ho5, s5⟩
    have HS5 := Lib.hid s5
    have HP5 := Lib.hid (hp5.trans (HP.out.append_right [⟨k, v, nx⟩]))
    have HO5 := Lib.hid ho5
    clear hp5 ho5 s5
    go_wp2_with fail
    go_end0
    have kk : Kp (fun j => j = p ∨ (Value.slice A n c).ownBlock = some j) w w5 := ((HPP.out.kp.setCell (p := ⟨p, 1, none⟩) (fun _ => .inl rfl) _)).trans' HS5.out.kp (fun j hj e => by
      rcases HPP.out.ge j e with h | h
      · exact .inr h
      · omega)
    exact ⟨rfl, _, ⟨E', HP5.out, HO5.out, HS5.out.r⟩, ⟨kk, HPP.out.ge⟩⟩
end Go.Proofs.YtgdokpfepfmbmaaDoor

namespace Go.Proofs.YtgdokpfepfmbmaaDoor
set_option linter.unusedVariables false
set_option linter.unusedSimpArgs false
open Go.RowKit

theorem Ent.lt_trans {a b c : Ent} (h : a.lt b) (g : b.lt c) : a.lt c := by unfold Ent.lt at *; omega
/-- Which is least of one, and of the first j of the two below it. -/
structure LsP (E : List Ent) (i l j : Nat) : Prop where
  at_ : l = i ∨ (0 < l ∧ (l - 1) / 2 = i ∧ l < E.length ∧ ∀ a b, E[i]? = some a → E[l]? = some b → b.lt a)
  min : ∀ c, 2 * i + 1 ≤ c → c < 2 * i + 1 + j → ∀ x y, E[c]? = some x → E[l]? = some y → ¬ x.lt y
section
variable {E : List Ent} {i l j : Nat}
theorem LsP.start : LsP E i i 0 := ⟨.inl rfl, fun c h1 h2 => by omega⟩
theorem LsP.out (h : LsP E i l j) (hc : E.length ≤ 2 * i + 1 + j) : LsP E i l (j + 1) := ⟨h.at_, fun c h1 h2 x y hx hy => by
  have := (List.getElem?_eq_some_iff.1 hx).1
  exact h.min c h1 (by omega) x y hx hy⟩
theorem LsP.keep (h : LsP E i l j) {a b : Ent} (ha : E[2 * i + 1 + j]? = some a) (hb : E[l]? = some b) (hn : ¬ a.lt b) : LsP E i l (j + 1) := ⟨h.at_, fun c h1 h2 x y hx hy => by
  rcases Nat.lt_or_ge c (2 * i + 1 + j) with h3 | h3
  · exact h.min c h1 h3 x y hx hy
  · obtain rfl : c = 2 * i + 1 + j := by omega
    rw [ha] at hx; rw [hb] at hy
    cases hx; cases hy; exact hn⟩
theorem LsP.new (h : LsP E i l j) (hj : j < 2) {a b : Ent} (ha : E[2 * i + 1 + j]? = some a) (hb : E[l]? = some b) (hl : a.lt b) : LsP E i (2 * i + 1 + j) (j + 1) := by
  refine ⟨.inr ⟨by omega, by omega, (List.getElem?_eq_some_iff.1 ha).1, fun x y hx hy => ?_⟩, fun c h1 h2 x y hx hy => ?_⟩
  · rw [ha] at hy; cases hy
    rcases h.at_ with e | ⟨_, _, _, h3⟩
    · rw [e, hx] at hb; cases hb; exact hl
    · exact Ent.lt_trans hl (h3 x b hx hb)
  · rw [ha] at hy; cases hy
    rcases Nat.lt_or_ge c (2 * i + 1 + j) with h3 | h3
    · exact Ent.nlt_of (h.min c h1 h3 x b hx hb) hl
    · obtain rfl : c = 2 * i + 1 + j := by omega
      rw [ha] at hx; cases hx; exact Ent.nlt_irrefl _
theorem LsP.done (h : LsP E i l 2) (he : l = i) (hd : DnI E i) : HeapO E := hd.done fun j a b hj hp ha hb => by
  subst he
  exact h.min j (by omega) (by omega) a b ha hb
theorem LsP.next (h : LsP E i l 2) (he : l ≠ i) (hd : DnI E i) : l < E.length ∧ i < l ∧ ∀ a b, E[i]? = some a → E[l]? = some b → DnI (swapL E i l a b) l := by
  rcases h.at_ with e | ⟨h1, h2, h3, h4⟩
  · exact absurd e he
  · exact ⟨h3, by omega, fun a b ha hb => hd.step h1 h2 ha hb (h4 a b ha hb) fun j x hj hp hx => h.min j (by omega) (by omega) x b hx hb⟩
theorem LsP.lt (h : LsP E i l j) (hi : i < E.length) : l < E.length := by
  rcases h.at_ with e | ⟨_, _, h3, _⟩
  · omega
  · exact h3
theorem LsP.le (h : LsP E i l j) : l ≤ 2 * i + 2 := by
  rcases h.at_ with e | ⟨_, h2, _, _⟩ <;> omega
end

set_option maxHeartbeats 2000000 in
set_option maxRecDepth 100000 in
theorem hpdown_any {p nx : Nat} {V : Value} {E : List Ent} {w : World} (h : HpR p V nx E w) (hE : E.length ≤ 4000000000) (hd : DnI E 0) :
    Calls Tryd.prog 93 #[.pointer (some ⟨p, 0, none⟩), .int .i64 0] w fun e w' => e = .returned (.tuple #[]) ∧ ∃ E', E'.Perm E ∧ HeapO E' ∧ HpS p V nx E' w w' := by
  obtain ⟨A, cap, rfl⟩ := h.own.rd.shape
  obtain ⟨n, hn⟩ : ∃ n, n = E.length := ⟨_, rfl⟩
  rw [← hn] at h hE ⊢
  have HH := Lib.hid h; have HD := Lib.hid hd; have HN := Lib.hid hn
  have i0 : ∀ (x0 x1 : Value) (w : World), (Instr.index 73 (.agg #[x0, x1]) (.int .i64 0)).run Tryd.prog w = .ok x0 w := fun x0 x1 w => by kernel_rfl
  have i1 : ∀ (x0 x1 : Value) (w : World), (Instr.index 73 (.agg #[x0, x1]) (.int .i64 1)).run Tryd.prog w = .ok x1 w := fun x0 x1 w => by kernel_rfl
  clear h hd hn
  go_enter Tryd.func93, Tryd.ntmps93
  go_wp2_with fail
  go_loopg [1] (n + 1) (fun g2 iv wx => ∃ (k : Nat) (E' : List Ent), g2 = n + 1 - k ∧ iv = .int .i64 k ∧ k ≤ n ∧ E'.Perm E ∧ DnI E' k ∧ HpS p (.slice A n cap) nx E' w wx)
  case atStart => exact ⟨0, E, rfl, rfl, by omega, List.Perm.refl _, HD.out, HpS.refl HH.out⟩
  case round =>
    obtain ⟨k, E', hg2, rfl, hk, hp, hd, hs⟩ := hrel
    have HP := Lib.hid hp; have HDK := Lib.hid hd; have HS := Lib.hid hs
    have hl : E'.length = n := by rw [hp.length_eq, HN.out]
    have HL := Lib.hid hl
    have hm1 : IntKind.i64.wrap (2 * (k : Int)) = 2 * (k : Int) := IntWalk.i64_in _ (by omega)
    have hm2 : IntKind.i64.wrap (2 * (k : Int) + 1) = ((2 * k + 1 : Nat) : Int) := by rw [IntWalk.i64_in _ (by omega)]; omega
    have hm3 : IntKind.i64.wrap (2 * (k : Int) + 2) = ((2 * k + 2 : Nat) : Int) := by rw [IntWalk.i64_in _ (by omega)]; omega
    clear hp hd hs hl
    obtain ⟨G, rfl⟩ : ∃ G : Nat, G = gk := ⟨_, rfl⟩
    go_wp2_with fail
    obtain ⟨wo, rfl⟩ : ∃ wo : World, wo = wr := ⟨_, rfl⟩
    go_loopg [5, 18] 3 (fun g3 lv jv wx => ∃ (j l : Nat), g3 = 3 - j ∧ jv = .int .i64 j ∧ j ≤ 2 ∧ lv = .int .i64 l ∧ LsP E' k l j ∧ HpS p (.slice A n cap) nx E' w wx)
    case atStart => exact ⟨0, k, rfl, rfl, by omega, rfl, LsP.start, HS.out⟩
    case round =>
      clear HS
      obtain ⟨j, l, hg3, rfl, hj, rfl, hls, hs⟩ := hrel
      have HLP := Lib.hid hls; have HS := Lib.hid hs
      have hp0 : wr.cell? ⟨p, 0, none⟩ = some (.slice A n cap) := hs.r.c0
      have hll := hls.le
      by_cases hlt : j < 2
      · have hltI : (j : Int) < 2 := by omega
        have hwj : IntKind.i64.wrap ((j : Int) + 1) = (j : Int) + 1 := IntWalk.i64_in _ (by omega)
        obtain ⟨c, hc⟩ : ∃ c, c = 2 * k + 1 + j := ⟨_, rfl⟩
        have hidx : ∀ w, (Instr.index 73 (.agg #[.int .i64 ((2 * k + 1 : Nat) : Int), .int .i64 ((2 * k + 2 : Nat) : Int)]) (.int .i64 (j : Int))).run Tryd.prog w = .ok (.int .i64 (c : Int)) w := by
          intro w
          obtain rfl | rfl : j = 0 ∨ j = 1 := by omega
          · rw [hc]; exact i0 _ _ w
          · rw [hc]; exact i1 _ _ w
        have hidx2 : ∀ w, (Instr.index 73 (.agg #[.int .i64 (2 * (k : Int) + 1), .int .i64 (2 * (k : Int) + 2)]) (.int .i64 (j : Int))).run Tryd.prog w = .ok (.int .i64 (c : Int)) w := by
          intro w
          have := hidx w
          simpa using this
        have HC := Lib.hid hc
        have hc0I : (0 : Int) ≤ (c : Int) := by omega
        have hl0I : (0 : Int) ≤ (l : Int) := by omega
        by_cases hcn : c < n
        · have hcI : (c : Int) < (n : Int) := by omega
          have hcd : decide ((c : Int) < (n : Int)) = true := by simp; omega
          have hcd2 : decide (c < n) = true := by simp; omega
          have hlE := hls.lt (by rw [HL.out]; omega)
          rw [HL.out] at hlE
          have hlI : (l : Int) < (n : Int) := by omega
          obtain ⟨a, ha⟩ : ∃ a, E'[c]? = some a := ⟨_, List.getElem?_eq_getElem (by rw [HL.out]; exact hcn)⟩
          obtain ⟨b, hb⟩ : ∃ b, E'[l]? = some b := ⟨_, List.getElem?_eq_getElem (by rw [HL.out]; exact hlE)⟩
          have HA := Lib.hid (show E'[2 * k + 1 + j]? = some a by rw [← hc]; exact ha)
          have HB := Lib.hid hb
          rcases hs.r.own.b with ⟨_, he⟩ | ⟨g, cap', hv, _, _, _⟩
          · rw [he] at ha; simp at ha
          simp only [Value.slice.injEq] at hv
          obtain ⟨rfl, hzz, rfl⟩ := hv
          clear hzz
          obtain ⟨a0, a1, a2⟩ := ownH_at hs.r.own ha
          obtain ⟨b0, b1, b2⟩ := ownH_at hs.r.own hb
          obtain ⟨t, ht⟩ : ∃ t, t = decide (a.lt b) := ⟨_, rfl⟩
          have HLS := Lib.hid (hpless_any a b t ht)
          have HT := Lib.hid ht
          unfold Ent.val at HLS
          clear ha hb ht hs hls hc hcn hlE hlt
          have p0 : wr.drew.cell? ⟨p, 0, none⟩ = some (.slice (some ⟨g, 0, none⟩) n cap) := hp0
          have a0' : wr.drew.cell? ⟨g, c * 3, none⟩ = some (.int .i64 a.k) := a0
          have a1' : wr.drew.cell? ⟨g, c * 3 + 1, none⟩ = some (.int .i64 a.v) := a1
          have a2' : wr.drew.cell? ⟨g, c * 3 + 2, none⟩ = some (.int .u64 (a.q : Int)) := a2
          have b0' : wr.drew.cell? ⟨g, l * 3, none⟩ = some (.int .i64 b.k) := b0
          have b1' : wr.drew.cell? ⟨g, l * 3 + 1, none⟩ = some (.int .i64 b.v) := b1
          have b2' : wr.drew.cell? ⟨g, l * 3 + 2, none⟩ = some (.int .u64 (b.q : Int)) := b2
          go_wp2_with fail
          go_region_held3 (fun w' => w'.cell? ⟨p, 0, none⟩ = some (.slice (some ⟨g, 0, none⟩) n cap) ∧ w'.cell? ⟨g, c * 3, none⟩ = some (.int .i64 a.k) ∧ w'.cell? ⟨g, c * 3 + 1, none⟩ = some (.int .i64 a.v) ∧ w'.cell? ⟨g, c * 3 + 2, none⟩ = some (.int .u64 (a.q : Int)) ∧ w'.cell? ⟨g, l * 3, none⟩ = some (.int .i64 b.k) ∧ w'.cell? ⟨g, l * 3 + 1, none⟩ = some (.int .i64 b.v) ∧ w'.cell? ⟨g, l * 3 + 2, none⟩ = some (.int .u64 (b.q : Int)))
            (first | exact ⟨by assumption, by assumption, by assumption, by assumption, by assumption, by assumption, by assumption⟩ | exact ⟨p0, a0', a1', a2', b0', b1', b2'⟩)
            (first
              | (go_at_call 104; refine (HLS.out wr.drew).mono ?_; rintro e w8 ⟨rfl, k8⟩; have t0 := k8.cellS p0 (no_no _); have t1 := k8.cellS a0' (no_no _); have t2 := k8.cellS a1' (no_no _); have t3 := k8.cellS a2' (no_no _); have t4 := k8.cellS b0' (no_no _); have t5 := k8.cellS b1' (no_no _); have t6 := k8.cellS b2' (no_no _); have K8 := Lib.hid ((Kp.refl No wr).drew.no k8); clear k8))
          have S8 := Lib.hid (HS.out.no K8.out)
          clear p0 a0' a1' a2' b0' b1' b2' t0 t1 t2 t3 t4 t5 t6 hp0 a0 a1 a2 b0 b1 b2
          cases t with
          | true =>
            have LN := Lib.hid (HLP.out.new (by omega) HA.out HB.out (by have := HT.out; simpa using this.symm))
            rw [← HC.out] at LN
            go_wp2_with fail
            go_roundg (3 - (j + 1))
            case measure => omega
            case rel => exact ⟨j + 1, c, rfl, by go_num, by omega, rfl, LN.out, S8.out⟩
          | false =>
            have LN := Lib.hid (HLP.out.keep HA.out HB.out (by have := HT.out; simpa using this))
            go_wp2_with fail
            go_roundg (3 - (j + 1))
            case measure => omega
            case rel => exact ⟨j + 1, l, rfl, by go_num, by omega, rfl, LN.out, S8.out⟩
        · have hcI : ¬ (c : Int) < (n : Int) := by omega
          have hcd : decide ((c : Int) < (n : Int)) = false := by simp; omega
          have hcd2 : decide (c < n) = false := by simp; omega
          have LN := Lib.hid (hls.out (by rw [HL.out, ← hc]; omega))
          clear hs hls hc hcn hlt
          go_wp2_with fail
          go_quiet (fail)
          go_wp2_with fail
          go_roundg (3 - (j + 1))
          case measure => omega
          case rel => exact ⟨j + 1, l, rfl, by go_num, by omega, rfl, LN.out, HS.out.no ((Kp.refl _ _).drewN _)⟩
      · obtain rfl : j = 2 := by omega
        by_cases he : l = k
        · have heb : ((l : Int) == (k : Int)) = true := by simp [he]
          have heb2 : (l == k) = true := by simp [he]
          have HO := Lib.hid (HLP.out.done he HDK.out)
          clear hs hls he hlt
          go_wp2_with fail
          (try simp only [Exit.inBlock, Exit.then])
          refine bodyPost_ret (results_none rfl _ _ _) rfl ?_
          exact ⟨rfl, E', HP.out, HO.out, HS.out⟩
        · have heb : ((l : Int) == (k : Int)) = false := by simp; omega
          have heb2 : (l == k) = false := by simp; omega
          obtain ⟨h1, h2, h3⟩ := HLP.out.next he HDK.out
          obtain ⟨a, ha⟩ : ∃ a, E'[k]? = some a := ⟨_, List.getElem?_eq_getElem (by omega)⟩
          obtain ⟨b, hb⟩ : ∃ b, E'[l]? = some b := ⟨_, List.getElem?_eq_getElem h1⟩
          have HA := Lib.hid ha; have HB := Lib.hid hb
          have DN := Lib.hid (h3 a b ha hb)
          have PN := Lib.hid ((swapL_perm ha hb).trans HP.out)
          rw [HL.out] at h1
          clear h3 ha hb hs hls he hlt
          go_wp2_with fail
          refine (hpswap_any HS.out.r k l a b HA.out HB.out).mono ?_
          rintro e w9 ⟨rfl, s9⟩
          have S9 := Lib.hid (HS.out.trans s9)
          clear s9
          go_wp2_with fail
          go_roundg (n + 1 - l)
          case measure => omega
          case rel => exact ⟨l, _, rfl, rfl, by omega, PN.out, DN.out, S9.out⟩
end Go.Proofs.YtgdokpfepfmbmaaDoor
