/- LinkPlays: the memory. -/
import Derived.Test.YtnejjjoedmefkaaLwB
import Derived.Test.YtnejjjoedmefkaaQRcv
import Derived.Test.YtnejjjoedmefkaaAct14
namespace Go.Proofs.Ytnejjjoedmefkaa
set_option linter.unusedVariables false
set_option linter.unusedSimpArgs false
open Go.RowKit

/-- Four objects, older than block B, each apart. -/
structure Four (w : World) (B ps pr pv pw : Nat) : Prop where
  s : ps < B
  r : pr < B
  v : pv < B
  q : pw < B
  s0 : w.heap.size ≤ ps
  r0 : w.heap.size ≤ pr
  v0 : w.heap.size ≤ pv
  q0 : w.heap.size ≤ pw
  sr : ps ≠ pr
  sv : ps ≠ pv
  sq : ps ≠ pw
  rv : pr ≠ pv
  rq : pr ≠ pw
  vq : pv ≠ pw

/-- A sender and a receiver, and the document's. -/
structure PlS (w : World) (B ps pr pv pw n : Nat) (on : Bool) (d : List Nat) (V : Value) (d' : List Nat) (cs cq : Array Value) (hd : Nat) (bk : List Nat) (Vb : Value) (wr : World) : Prop where
  s : SndS ps n on d V wr
  v : SqS pv 0 cs 43 n on d' wr
  eq : on = true → d = d'
  r : RcvS pr hd wr
  q : RcqS pw 0 cq 46 hd wr
  bo : Own BK 5 wr Vb bk
  bx : ∀ x ∈ bk, x < 256
  bl : bk.length ≤ 1004
  kp : Kp No w wr
  Vn : ∀ g, V.ownBlock = some g → B ≤ g
  bn : ∀ g, Vb.ownBlock = some g → B ≤ g
  le : B ≤ wr.heap.size

section
variable {w wr w1 w2 : World} {B ps pr pv pw n : Nat} {on : Bool} {d : List Nat} {V : Value} {d' : List Nat} {cs cq : Array Value} {hd : Nat} {bk : List Nat} {Vb : Value}
theorem PlS.far {S : Nat → Prop} (P : PlS w B ps pr pv pw n on d V d' cs cq hd bk Vb wr) (F : Four w B ps pr pv pw) (hk : Kp S wr w1) (hS : ∀ k, S k → B ≤ k) (h1 : ∀ g, V.ownBlock = some g → ¬ S g) (h2 : ∀ g, Vb.ownBlock = some g → ¬ S g) : PlS w B ps pr pv pw n on d V d' cs cq hd bk Vb w1 :=
  ⟨P.s.far hk (fun e => by have := hS _ e; have := F.s; omega) h1, P.v.far hk (fun e => by have := hS _ e; have := F.v; omega), P.eq, P.r.far hk (fun e => by have := hS _ e; have := F.r; omega), P.q.far hk (fun e => by have := hS _ e; have := F.q; omega),
    P.bo.kp hk h2, P.bx, P.bl, P.kp.trans' hk (fun k hk e => by have := hS _ e; have := F.s; have := F.s0; omega), P.Vn, P.bn, Nat.le_trans P.le hk.size⟩
theorem PlS.no (P : PlS w B ps pr pv pw n on d V d' cs cq hd bk Vb wr) (F : Four w B ps pr pv pw) (hk : Kp No wr w1) : PlS w B ps pr pv pw n on d V d' cs cq hd bk Vb w1 := P.far F hk (fun _ e => e.elim) (fun _ _ => no_no _) fun _ _ => no_no _
theorem PlS.back (P : PlS w B ps pr pv pw n on d V d' cs cq hd bk Vb wr) {bk' : List Nat} {Vb' : Value} (h1 : Own BK 5 wr Vb' bk') (h2 : ∀ x ∈ bk', x < 256) (h3 : bk'.length ≤ 1004) (h4 : ∀ g, Vb'.ownBlock = some g → B ≤ g) : PlS w B ps pr pv pw n on d V d' cs cq hd bk' Vb' wr :=
  ⟨P.s, P.v, P.eq, P.r, P.q, h1, h2, h3, P.kp, P.Vn, h4, P.le⟩
theorem kpv {p : Nat} {S : Value} (h : ∀ g, S.ownBlock = some g → B ≤ g) (hp : p < B) : ∀ g, S.ownBlock = some g → ¬ g = p := fun g hg e => by have := h g hg; omega

/-- A thing is told to both. -/
theorem PlS.tell (P : PlS w B ps pr pv pw n on d V d' cs cq hd bk Vb wr) (F : Four w B ps pr pv pw) {D : List Nat} (k1 : Kp (fun k => k = ps) wr w1) {V' : Value} (s1 : SndS ps n (on || decide (tellE n on D = 0)) (if tellE n on D = 0 then D else d) V' w1) (v1 : ∀ g, V'.ownBlock = some g → V.ownBlock = some g ∨ wr.heap.size ≤ g)
    (k2 : Kp (fun k => k = pv) w1 w2) (s2 : SqS pv 0 (put3 cs 0 n (on || decide (tellE n on D = 0)) (if tellE n on D = 0 then D else d')) 43 n (on || decide (tellE n on D = 0)) (if tellE n on D = 0 then D else d') w2) :
    PlS w B ps pr pv pw n (on || decide (tellE n on D = 0)) (if tellE n on D = 0 then D else d) V' (if tellE n on D = 0 then D else d') (put3 cs 0 n (on || decide (tellE n on D = 0)) (if tellE n on D = 0 then D else d')) cq hd bk Vb w2 := by
  have hV : ∀ g, V'.ownBlock = some g → B ≤ g := fun g hg => by
    rcases v1 g hg with e | e
    · exact P.Vn g e
    · have := P.le; omega
  refine ⟨s1.far k2 F.sv (kpv hV F.v), s2, fun e => ?_, (P.r.far k1 (fun e => F.sr e.symm)).far k2 F.rv, (P.q.far k1 (fun e => F.sq e.symm)).far k2 (fun e => F.vq e.symm), (P.bo.kp k1 (kpv P.bn F.s)).kp k2 (kpv P.bn F.v), P.bx, P.bl, (P.kp.newer k1 F.s0).newer k2 F.v0, hV, P.bn, Nat.le_trans P.le (Nat.le_trans k1.size k2.size)⟩
  by_cases he : tellE n on D = 0
  · rw [if_pos he, if_pos he]
  · rw [decide_eq_false he, Bool.or_false] at e
    rw [if_neg he, if_neg he]; exact P.eq e
/-- Bytes come back to both. -/
theorem PlS.shear (P : PlS w B ps pr pv pw n on d V d' cs cq hd bk Vb wr) (F : Four w B ps pr pv pw) {b : Bool} (k1 : Kp (fun k => k = ps) wr w1) (s1 : SndS ps (if b then n + 1 else n) (on && !b) (if b then [] else d) (if b then .slice none 0 0 else V) w1)
    (k2 : Kp (fun k => k = pv) w1 w2) (s2 : SqS pv 0 (put3 cs 0 (if b then n + 1 else n) (on && !b) d') 43 (if b then n + 1 else n) (on && !b) d' w2) :
    PlS w B ps pr pv pw (if b then n + 1 else n) (on && !b) (if b then [] else d) (if b then .slice none 0 0 else V) d' (put3 cs 0 (if b then n + 1 else n) (on && !b) d') cq hd bk Vb w2 := by
  have hV : ∀ g, (if b then Value.slice none 0 0 else V).ownBlock = some g → B ≤ g := fun g hg => by
    cases b
    · exact P.Vn g hg
    · simp [Value.ownBlock] at hg
  refine ⟨s1.far k2 F.sv (kpv hV F.v), s2, fun e => ?_, (P.r.far k1 (fun e => F.sr e.symm)).far k2 F.rv, (P.q.far k1 (fun e => F.sq e.symm)).far k2 (fun e => F.vq e.symm), (P.bo.kp k1 (kpv P.bn F.s)).kp k2 (kpv P.bn F.v), P.bx, P.bl, (P.kp.newer k1 F.s0).newer k2 F.v0, hV, P.bn, Nat.le_trans P.le (Nat.le_trans k1.size k2.size)⟩
  cases b
  · rw [Bool.not_false, Bool.and_true] at e; exact P.eq e
  · simp at e
/-- Bytes come to both receivers. -/
theorem PlS.rhear (P : PlS w B ps pr pv pw n on d V d' cs cq hd bk Vb wr) (F : Four w B ps pr pv pw) {h2 : Nat} (k1 : Kp (fun k => k = pr) wr w1) (r1 : RcvS pr h2 w1) (k2 : Kp (fun k => k = pw) w1 w2) (q2 : RcqS pw 0 (cq.setIfInBounds 0 (.int .u64 (h2 : Int))) 46 h2 w2) :
    PlS w B ps pr pv pw n on d V d' cs (cq.setIfInBounds 0 (.int .u64 (h2 : Int))) h2 bk Vb w2 :=
  ⟨(P.s.far k1 F.sr (kpv P.Vn F.r)).far k2 F.sq (kpv P.Vn F.q), (P.v.far k1 (fun e => F.rv e.symm)).far k2 F.vq, P.eq, r1.far k2 F.rq, q2, (P.bo.kp k1 (kpv P.bn F.r)).kp k2 (kpv P.bn F.q), P.bx, P.bl, (P.kp.newer k1 F.r0).newer k2 F.q0, P.Vn, P.bn, Nat.le_trans P.le (Nat.le_trans k1.size k2.size)⟩
end

def PlI (w : World) (B ps pr pv pw : Nat) (Vb : Value) (wr : World) : Prop := ∃ n on d V d' cs cq hd bk, PlS w B ps pr pv pw n on d V d' cs cq hd bk Vb wr
end Go.Proofs.Ytnejjjoedmefkaa
