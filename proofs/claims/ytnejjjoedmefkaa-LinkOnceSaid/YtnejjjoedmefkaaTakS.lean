/- link.Take: the memory. -/
import Derived.Test.YtnejjjoedmefkaaTakL
import Derived.Test.YtnejjjoedmefkaaBitE
import Derived.Deep.LoopGhost
import Derived.Deep.RegionLaw
namespace Go.Proofs.Ytnejjjoedmefkaa
set_option linter.unusedVariables false
set_option linter.unusedSimpArgs false
open Go.RowKit

def takeOk (f : List Nat) : Bool := isF f && tOk (unpackB (midP f))
def tkH (f : List Nat) : Bool := takeOk f && tH (unpackB (midP f))
def tkN (f : List Nat) : Nat := if takeOk f then tC (unpackB (midP f)) else 0
def tkD (f : List Nat) : List Nat := if takeOk f then tD (unpackB (midP f)) else []
def tkE (f : List Nat) : Int := if takeOk f then 0 else 140
def TakeR (f : List Nat) (w : World) (e : Ending) (w' : World) : Prop := ∃ v', e = .returned (.tuple #[.agg #[.bool (tkH f), .int .u64 (tkN f : Int), v'], .int .i64 (tkE f)]) ∧ NewS BK 5 w w' v' (tkD f)

theorem Kp.one {w : World} {p : Nat} (a : Nat) (v : Value) : Kp (fun k => k = p) w (w.setCell ⟨p, a, none⟩ v) := (Kp.refl (fun k => k = p) w).setCell (p := ⟨p, a, none⟩) (fun _ => rfl) v

/-- The memory while a packet is read: the result's block is the first new one, the packet's block b, its data D. -/
structure TkP (w : World) (b : Nat) (h : Bool) (N : Int) (data : List Nat) (D : Value) (wr : World) : Prop where
  pkt : wr.heap[b]? = some (.cells #[.bool h, .int .u64 N, D] 25 (0, 0))
  own : Own BK 5 wr D data
  res : wr.heap[w.heap.size]? = some (.cells #[.bool false, .int .u64 0, .slice none 0 0] 25 (0, 0))
  kp : Kp No w wr
  bb : w.heap.size < b
  dn : ∀ g, D.ownBlock = some g → b < g
section
variable {w wr w' : World} {b : Nat} {h : Bool} {N : Int} {data : List Nat} {D : Value}
/-- Only blocks between the result's and the packet's are written. -/
theorem TkP.far {S : Nat → Prop} (t : TkP w b h N data D wr) (hk : Kp S wr w') (h1 : ∀ k, S k → w.heap.size < k ∧ k < b) : TkP w b h N data D w' :=
  ⟨hk.blk t.pkt (fun e => by have := (h1 _ e).2; omega), t.own.kp hk (fun g hg e => by have := (h1 _ e).2; have := t.dn g hg; omega), hk.blk t.res (fun e => by have := (h1 _ e).1; omega), t.kp.trans' hk fun k hk e => absurd (h1 k e).1 (by omega), t.bb, t.dn⟩
theorem TkP.no (t : TkP w b h N data D wr) (hk : Kp No wr w') : TkP w b h N data D w' := t.far hk fun _ e => e.elim
theorem TkP.setN (t : TkP w b h N data D wr) (M : Int) : TkP w b h M data D (wr.setCell ⟨b, 1, none⟩ (.int .u64 M)) := by
  have hk := Kp.one (w := wr) (p := b) 1 (.int .u64 M)
  have hb := t.bb
  exact ⟨(blk_set t.pkt 1 _).trans rfl, t.own.kp hk fun g hg e => by have e : g = b := e; have := t.dn g hg; omega, hk.blk t.res (fun e => by have e : w.heap.size = b := e; omega), t.kp.trans' hk fun k hk e => by have e : k = b := e; omega, t.bb, t.dn⟩
theorem TkP.app {w1 w6 : World} {D' : Value} {data' : List Nat} (t : TkP w b h N data D w1) (k1 : Own BK 5 w6 D' data') (k2 : Kp (fun k => D.ownBlock = some k) w1 w6) (k3 : ∀ g, D'.ownBlock = some g → D.ownBlock = some g ∨ w1.heap.size ≤ g) : TkP w b h N data' D' (w6.setCell ⟨b, 2, none⟩ D') := by
  have hk := Kp.one (w := w6) (p := b) 2 D'
  have hb := t.bb
  have hblt := lt_of_block t.pkt
  have p6 := k2.blk t.pkt (fun e => by have := t.dn _ e; omega)
  have hd : ∀ g, D'.ownBlock = some g → b < g := fun g hg => by
    rcases k3 g hg with e | e
    · exact t.dn g e
    · omega
  refine ⟨(blk_set p6 2 _).trans rfl, k1.kp hk fun g hg e => by have e : g = b := e; have := hd g hg; omega, hk.blk (k2.blk t.res fun e => by have := t.dn _ e; omega) (fun e => by have e : w.heap.size = b := e; omega), (t.kp.trans' k2 fun k hk e => by have := t.dn _ e; omega).trans' hk fun k hk e => by have e : k = b := e; omega, t.bb, hd⟩
/-- What an append to the data writes leaves a reader as it is. -/
theorem TkP.rdr {w1 w6 : World} {D' : Value} {p n : Nat} {V : Value} {B : List Nat} {f : Int} {w0 : World} (t : TkP w b h N data D w1) (k2 : Kp (fun k => D.ownBlock = some k) w1 w6) (a : AtR w0 p V B n f w1) (hp : p < b) (hv : ∀ g, V.ownBlock = some g → g < b) : AtR (w6.setCell ⟨b, 2, none⟩ D') p V B n f (w6.setCell ⟨b, 2, none⟩ D') := by
  have a6 := a.far k2 (fun e => by have := t.dn _ e; omega) fun g hg e => by have := t.dn _ e; have := hv g hg; omega
  exact (a6.far (Kp.one 2 D') (fun e => by have e : p = b := e; omega) fun g hg e => by have e : g = b := e; have := hv g hg; omega).here
end
end Go.Proofs.Ytnejjjoedmefkaa
namespace Go.Proofs.Ytnejjjoedmefkaa
theorem tC_int (L : List Bool) : (if rcOk L (tN1 L) (tF1 L) then (rcV L (tN1 L) (tF1 L) : Int) - 1 else 0) = (tC L : Int) ∧ tC L < 18446744073709551615 := by
  unfold tC
  by_cases h : rcOk L (tN1 L) (tF1 L)
  · rw [if_pos h, if_pos h]
    have hf := h.1
    rw [hf] at h ⊢
    have := rc_back L _ h
    omega
  · rw [if_neg h, if_neg h]; exact ⟨rfl, by decide⟩
/-- What the loop has read. -/
structure TkD (L : List Bool) (data : List Nat) (n : Nat) (f : Int) : Prop where
  le : n ≤ L.length
  ok : (tF L = 0 ∧ f = 0 ∧ data = dataP L (tN L) data.length ∧ n = tN L + 8 * data.length) ∨ (tF L ≠ 0 ∧ f = tF L)
theorem TkD.start (L : List Bool) (h : tN L ≤ L.length) : TkD L [] (tN L) (tF L) := ⟨h, by
  by_cases hf : tF L = 0
  · exact .inl ⟨hf, hf, rfl, rfl⟩
  · exact .inr ⟨hf, rfl⟩⟩
theorem TkD.step {L : List Bool} {data : List Nat} {n : Nat} {f : Int} (h : TkD L data n f) (h8 : n + 8 ≤ L.length) : TkD L (data ++ [rgetV L n f 8]) (rgetN L n f 8) (rgetF L n f 8) ∧ rgetV L n f 8 < 256 := by
  rcases h.ok with ⟨h1, h2, h3, h4⟩ | ⟨h1, h2⟩
  · subst h2
    obtain ⟨g1, g2, g3⟩ := rget_full h8
    rw [g1, g2, g3]
    refine ⟨⟨h8, .inl ⟨h1, rfl, ?_, ?_⟩⟩, bval8 _⟩
    · rw [List.length_append, List.length_singleton, dataP_succ, ← h3, ← h4]
    · rw [List.length_append, List.length_singleton]; omega
  · rw [h2]
    obtain ⟨g1, g2, g3⟩ := rget_zero (L := L) (n := n) (many := 8) h1
    rw [g1, g2, g3]
    exact ⟨⟨h.le, .inr ⟨h1, rfl⟩⟩, by decide⟩
theorem TkD.fin {L : List Bool} {data : List Nat} {n : Nat} {f : Int} (h : TkD L data n f) (hk : data.length ≤ 201) (hx : tH L = true ∧ data = [] ∨ tH L = false ∧ (L.length - n < 8 ∨ 200 < data.length)) :
    ((rendV L n f = 0 ∧ data.length ≤ 200) → tOk L = true ∧ data = tD L) ∧ (¬ (rendV L n f = 0 ∧ data.length ≤ 200) → tOk L = false) := by
  rcases h.ok with ⟨h1, h2, h3, h4⟩ | ⟨h1, h2⟩
  · subst h2
    have hle := h.le
    have hkey : (tK L ≤ 200 → data.length = tK L) ∧ (200 < tK L → 200 < data.length) := by
      unfold tK
      rcases hx with ⟨a, b⟩ | ⟨a, b⟩
      · rw [if_pos a, b]; simp
      · rw [if_neg (by rw [a]; decide)]; omega
    constructor
    · rintro ⟨e1, e2⟩
      have hK : tK L ≤ 200 := by
        rcases Nat.lt_or_ge 200 (tK L) with h | h
        · have := hkey.2 h; omega
        · exact h
      have hlk := hkey.1 hK
      refine ⟨?_, by unfold tD; rw [← hlk]; exact h3⟩
      unfold tOk
      rw [← hlk, ← h4, h1, e1]; simp; exact e2
    · intro hn
      unfold tOk
      by_cases hK : tK L ≤ 200
      · have hlk := hkey.1 hK
        have : ¬ rendV L (tN L + 8 * tK L) 0 = 0 := fun e => hn ⟨by rw [h4, hlk]; exact e, by omega⟩
        rw [decide_eq_false this]; simp
      · rw [decide_eq_false hK]; simp
  · have hne : rendV L n f ≠ 0 := by unfold rendV; rw [h2, if_neg h1]; exact h1
    have : tOk L = false := by unfold tOk; rw [decide_eq_false h1]; rfl
    exact ⟨fun ⟨e, _⟩ => absurd e hne, fun _ => this⟩
theorem tN_le (L : List Bool) : tN L ≤ L.length := by
  have h1 : tN1 L ≤ L.length := by
    unfold tN1 rgetN
    split
    · rename_i h; omega
    · omega
  unfold tN rcN
  split
  · rename_i h; exact h.2.2
  · exact h1
theorem tN1_le (L : List Bool) : tN1 L ≤ L.length := by
  unfold tN1 rgetN
  split
  · rename_i h; omega
  · omega
end Go.Proofs.Ytnejjjoedmefkaa
