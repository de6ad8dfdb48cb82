/- A block that holds just a list of one-cell elements; make. -/
import Derived.Test.YtolkkinophklcaaDoorSnI
import Derived.Laws.MakeOwn
namespace Go.Proofs.YtolkkinophklcaaDoor
set_option linter.unusedVariables false
set_option linter.unusedSimpArgs false
open Go.RowKit

/-- Block g holds just these elements. -/
def Blk {α : Type} (enc : α → Value) (e : TypeId) (w : World) (g : Nat) (l : List α) : Prop := w.heap[g]? = some (.cells (l.map enc).toArray e (0, 0))
section
variable {α : Type} {enc : α → Value} {e : TypeId} {w w' : World} {g : Nat} {l : List α}
theorem Blk.get (h : Blk enc e w g l) {i : Nat} {x : α} (hx : l[i]? = some x) : w.cell? ⟨g, i, none⟩ = some (enc x) := (blk_cell h i).trans (by simp [hx])
theorem Blk.free (h : Blk enc e w g l) (i : Nat) : w.frozen? ⟨g, i, none⟩ = false := blk_free h i
theorem Blk.set (h : Blk enc e w g l) (i : Nat) (x : α) : Blk enc e (w.setCell ⟨g, i, none⟩ (enc x)) g (l.set i x) := by
  have := blk_set h i (enc x)
  unfold Blk
  rw [this, List.setIfInBounds_toArray, List.map_set]
theorem Blk.kp {S : Nat → Prop} (h : Blk enc e w g l) (hk : Kp S w w') (hn : ¬ S g) : Blk enc e w' g l := hk.blk h hn
theorem Blk.kpNo (h : Blk enc e w g l) (hk : Kp No w w') : Blk enc e w' g l := hk.blk h (no_no _)
theorem Blk.lt (h : Blk enc e w g l) : g < w.heap.size := lt_of_block h
theorem Blk.alloc (h : Blk enc e w g l) (o : Obj) : Blk enc e (w.alloc o) g l := blk_alloc h o
theorem Blk.far (h : Blk enc e w g l) {p : Addr} (hp : g ≠ p.block) (u : Value) : Blk enc e (w.setCell p u) g l := blk_far h hp u
end
/-- A kind of one cell. -/
structure K1 {α : Type} (K : Kd α) (enc : α → Value) : Prop where
  sz : K.sz = 1
  enc : ∀ x, K.enc x = [enc x]
theorem K1.encs {α : Type} {K : Kd α} {enc : α → Value} (h : K1 K enc) (l : List α) : K.encs l = l.map enc := by
  unfold Kd.encs
  induction l with
  | nil => rfl
  | cons a l ih => rw [List.flatMap_cons, h.enc, ih]; rfl
theorem Blk.rd {α : Type} {K : Kd α} {enc : α → Value} (hK : K1 K enc) {e : TypeId} {w : World} {g : Nat} {l : List α} (h : Blk enc e w g l) (cap : Nat) (hc : l.length ≤ cap) (hm : cap ≤ maxLen) : Rd K w (.slice (some ⟨g, 0, none⟩) l.length cap) l :=
  .inr ⟨g, 0, cap, rfl, hc, hm, fun j u hu => by
    rw [hK.encs, List.getElem?_map] at hu
    rw [Nat.zero_add, blk_cell h j, ← hu]
    simp⟩
theorem Blk.ownB {α : Type} {K : Kd α} {enc : α → Value} (hK : K1 K enc) {e : TypeId} {w : World} {g : Nat} {l : List α} (h : Blk enc e w g l) : OwnB K e w g l.length l :=
  ⟨_, h, Nat.le_refl _, by simp [hK.sz], by rw [hK.sz, hK.encs]; simp [List.take_of_length_le]⟩
theorem IK1 : K1 IK (Value.int .i64) := ⟨rfl, fun _ => rfl⟩
theorem run_mk {α : Type} {K : Kd α} {enc : α → Value} {P : Program} {t e : TypeId} {bytes : Nat} (E : ElT P t e K bytes) (hK : K1 K enc) (z0 : α) (hz : ∀ z, (P.info? e).bind (·.zero) = some z → z = enc z0) (ho : (enc z0).cells = #[enc z0]) (n : Nat) (hn : n ≤ 1000000) (hb : bytes ≤ 1000) (w : World) :
    (Instr.makeSlice t (.int .i64 (n : Int)) (.int .i64 (n : Int))).run P w = .ok (.slice (some ⟨w.heap.size, 0, none⟩) n n) (w.alloc (.cells ((List.replicate n z0).map enc).toArray e)) := by
  obtain ⟨ht, i, z, hi', hz', hsize, hby, hzs⟩ := E
  have hzz := hz z (by simp [hi', hz'])
  have hbb : i.bytes * n ≤ 1000 * 1000000 := Nat.mul_le_mul (by omega) hn
  have h1 : (i.bytes : Int) * (n : Int) ≤ 281474976710656 := by
    have : ((i.bytes * n : Nat) : Int) ≤ 281474976710656 := by omega
    rwa [Int.natCast_mul] at this
  have := run_make (P := P) w t e i z ht hi' hz' .i64 .i64 (n : Int) n (by omega) (Int.le_refl _) h1 (by omega)
  simp only [Int.toNat_natCast] at this
  rw [this]
  have hc : madeCells z.cells (n * i.size) = ((List.replicate n z0).map enc).toArray := by
    rw [hsize, hK.sz, Nat.mul_one, hzz, ho]
    apply Array.ext
    · simp [madeCells]
    · intro j h1 h2; simp [madeCells, Nat.mod_one]
  rw [hc]
/-- A bool's cell. -/
def BoK : Kd Bool := { sz := 1, enc := fun x => [.bool x], len := fun _ => rfl, one := by intro a v hv; simp at hv; subst hv; rfl, pos := by decide }
theorem BoK1 : K1 BoK Value.bool := ⟨rfl, fun _ => rfl⟩
theorem elBo : ElT Tryd.prog 54 4 BoK 1 := ElT.of (z := .bool false) (by kernel_rfl) (by kernel_rfl) rfl
theorem run_mkBo (n : Nat) (hn : n ≤ 1000000) (w : World) : (Instr.makeSlice 54 (.int .i64 (n : Int)) (.int .i64 (n : Int))).run Tryd.prog w = .ok (.slice (some ⟨w.heap.size, 0, none⟩) n n) (w.alloc (.cells ((List.replicate n false).map Value.bool).toArray 4)) :=
  run_mk elBo BoK1 false (fun z hz => by have h : (Tryd.prog.info? 4).bind (·.zero) = some (.bool false) := by kernel_rfl
                                         rw [h] at hz; cases hz; rfl) rfl n hn (by decide) w
end Go.Proofs.YtolkkinophklcaaDoor
