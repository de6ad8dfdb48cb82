/- LinkOnce: the memory. -/
import Derived.Test.YtnejjjoedmefkaaOnP
namespace Go.Proofs.Ytnejjjoedmefkaa
set_option linter.unusedVariables false
set_option linter.unusedSimpArgs false
open Go.ChangeShapes Go.WideShapes Go.ChangeAt Go.RowKit Go.Joins

/-- A string's cell. -/
def STK : Kd (List Nat) := { sz := 1, enc := fun x => [.string (strB x)], len := fun _ => rfl, one := by intro a v hv; simp at hv; subst hv; rfl, pos := by decide }
theorem elST : ElT Try.prog 66 9 STK 16 := ElT.of (z := .string ByteArray.empty) (by kernel_rfl) (by kernel_rfl) rfl
theorem Rd.strAt {w : World} {l : List (List Nat)} {g o n cap : Nat} (h : Rd STK w (.slice (some ⟨g, o, none⟩) n cap) l) {i : Nat} {x : List Nat} (hx : l[i]? = some x) : w.cell? ⟨g, o + i, none⟩ = some (.string (strB x)) := by
  have := h.at rfl hx (j := 0) rfl
  simpa [STK] using this

/-- S names only blocks of these types. -/
def Ty (w : World) (S : Nat → Prop) (ts : List TypeId) : Prop := ∀ g, S g → ∃ cs t, t ∈ ts ∧ w.heap[g]? = some (.cells cs t (0, 0))
section
variable {w w' : World} {S S2 : Nat → Prop} {ts us : List TypeId} {p : Nat} {cs : Array Value} {t : TypeId}
theorem Ty.no (w : World) : Ty w No [] := fun _ h => h.elim
theorem Ty.one (h : w.heap[p]? = some (.cells cs t (0, 0))) : Ty w (fun k => k = p) [t] := fun g e => ⟨cs, t, by simp, by rw [e]; exact h⟩
theorem Ty.own {α : Type} {K : Kd α} {V : Value} {l : List α} (h : Own K t w V l) : Ty w (fun k => V.ownBlock = some k) [t] := by
  intro g e
  rcases h with ⟨rfl, _⟩ | ⟨g1, cap, cur, rfl, hb, _⟩
  · simp [Value.ownBlock] at e
  have e1 : g1 = g := by simpa [Value.ownBlock] using e
  subst e1
  exact ⟨_, t, by simp, hb⟩
theorem Ty.or (h : Ty w S ts) (k : Ty w S2 us) : Ty w (fun g => S g ∨ S2 g) (ts ++ us) := by
  rintro g (e | e)
  · obtain ⟨cs, t, h1, h2⟩ := h g e; exact ⟨cs, t, List.mem_append_left _ h1, h2⟩
  · obtain ⟨cs, t, h1, h2⟩ := k g e; exact ⟨cs, t, List.mem_append_right _ h1, h2⟩
theorem Ty.not (h : Ty w S ts) (hb : w.heap[p]? = some (.cells cs t (0, 0))) (ht : t ∉ ts) : ¬ S p := by
  intro e
  obtain ⟨cs', t', h1, h2⟩ := h p e
  rw [hb] at h2
  simp only [Option.some.injEq, Obj.cells.injEq] at h2
  exact ht (h2.2.1 ▸ h1)
theorem Ty.notO {α : Type} {K : Kd α} {V : Value} {l : List α} (h : Ty w S ts) (o : Own K t w V l) (ht : t ∉ ts) : ∀ g, V.ownBlock = some g → ¬ S g := by
  intro g e
  obtain ⟨cs, t', h1, h2⟩ := Ty.own o g e
  have := List.mem_singleton.1 h1
  subst this
  exact h.not h2 ht
theorem Ty.byt (h : Ty w S ts) (ht : 5 ∉ ts) : Byt w S := fun g cs hg => h.not hg ht
end

/-- The blocks of LinkOnce: they are new since w; the pairs of one type are apart. -/
structure OnB (w : World) (ps pr pt pf bh br bf : Nat) : Prop where
  s : w.heap.size ≤ ps
  r : w.heap.size ≤ pr
  t : w.heap.size ≤ pt
  f : w.heap.size ≤ pf
  h : w.heap.size ≤ bh
  br : w.heap.size ≤ br
  bf : w.heap.size ≤ bf
  tf : pt ≠ pf

structure OnS (w : World) (ps pr pt pf bh br bf n : Nat) (on : Bool) (d : List Nat) (V Vt Vf Tv Hv : Value) (T H : List (List Nat)) (to fr : List SlH) (wr : World) : Prop where
  s : SndS ps n on d V wr
  r : RcvS pr H.length wr
  t : NetS pt Vt to wr
  f : NetS pf Vf fr wr
  tv : Own STK 9 wr Tv T
  hb : wr.heap[bh]? = some (.cells #[Hv] 66 (0, 0))
  hv : Own STK 9 wr Hv H
  rb : wr.heap[br]? = some (.cells #[.pointer (some ⟨pr, 0, none⟩)] 39 (0, 0))
  fb : wr.heap[bf]? = some (.cells #[.pointer (some ⟨pf, 0, none⟩)] 64 (0, 0))
  kp : Kp No w wr
  tf : ∀ g, Vt.ownBlock = some g → ¬ Vf.ownBlock = some g
  th : ∀ g, Tv.ownBlock = some g → ¬ Hv.ownBlock = some g
  nt : ∀ g, Vt.ownBlock = some g → w.heap.size ≤ g
  nf : ∀ g, Vf.ownBlock = some g → w.heap.size ≤ g
  nT : ∀ g, Tv.ownBlock = some g → w.heap.size ≤ g
  nH : ∀ g, Hv.ownBlock = some g → w.heap.size ≤ g

section
variable {w wr w1 : World} {ps pr pt pf bh br bf n : Nat} {on : Bool} {d : List Nat} {V Vt Vf Tv Hv : Value} {T H : List (List Nat)} {to fr : List SlH}
theorem OnS.no (P : OnS w ps pr pt pf bh br bf n on d V Vt Vf Tv Hv T H to fr wr) (hk : Kp No wr w1) : OnS w ps pr pt pf bh br bf n on d V Vt Vf Tv Hv T H to fr w1 :=
  ⟨P.s.no hk, P.r.no hk, P.t.no hk, P.f.no hk, P.tv.kpNo hk, hk.blk P.hb (no_no _), P.hv.kpNo hk, hk.blk P.rb (no_no _), hk.blk P.fb (no_no _), P.kp.no hk, P.tf, P.th, P.nt, P.nf, P.nT, P.nH⟩
/-- The sender is another one. -/
theorem OnS.setS (P : OnS w ps pr pt pf bh br bf n on d V Vt Vf Tv Hv T H to fr wr) (B : OnB w ps pr pt pf bh br bf) {n' : Nat} {on' : Bool} {d' : List Nat} {V' : Value} (hk : Kp (fun k => k = ps) wr w1) (s : SndS ps n' on' d' V' w1) : OnS w ps pr pt pf bh br bf n' on' d' V' Vt Vf Tv Hv T H to fr w1 := by
  have ty := Ty.one P.s.blk
  exact ⟨s, P.r.far hk (ty.not P.r.blk (by decide)), P.t.far hk (ty.not P.t.blk (by decide)) (ty.notO P.t.own (by decide)) (ty.byt (by decide)), P.f.far hk (ty.not P.f.blk (by decide)) (ty.notO P.f.own (by decide)) (ty.byt (by decide)),
    P.tv.kp hk (ty.notO P.tv (by decide)), hk.blk P.hb (ty.not P.hb (by decide)), P.hv.kp hk (ty.notO P.hv (by decide)), hk.blk P.rb (ty.not P.rb (by decide)), hk.blk P.fb (ty.not P.fb (by decide)), P.kp.newer hk B.s, P.tf, P.th, P.nt, P.nf, P.nT, P.nH⟩
/-- The network to the receiver is another one. -/
theorem OnS.setT (P : OnS w ps pr pt pf bh br bf n on d V Vt Vf Tv Hv T H to fr wr) (B : OnB w ps pr pt pf bh br bf) {Vt' : Value} {to' : List SlH} (hk : Kp (fun k => k = pt ∨ Vt.ownBlock = some k) wr w1) (t : NetS pt Vt' to' w1) (hV : ∀ g, Vt'.ownBlock = some g → Vt.ownBlock = some g ∨ wr.heap.size ≤ g) : OnS w ps pr pt pf bh br bf n on d V Vt' Vf Tv Hv T H to' fr w1 := by
  have ty := (Ty.one P.t.blk).or (Ty.own P.t.own)
  have f0 : ∀ g, Vf.ownBlock = some g → ¬ (g = pt ∨ Vt.ownBlock = some g) := fun g hg e => e.elim (fun e => own_neB P.f.own P.t.blk (by decide) g hg e) (fun e => P.tf g e hg)
  exact ⟨P.s.far hk (ty.not P.s.blk (by decide)) (ty.notO P.s.own (by decide)), P.r.far hk (ty.not P.r.blk (by decide)), t, P.f.far hk (fun e => e.elim (fun e => B.tf e.symm) (fun e => own_neB P.t.own P.f.blk (by decide) _ e rfl)) f0 (ty.byt (by decide)),
    P.tv.kp hk (ty.notO P.tv (by decide)), hk.blk P.hb (ty.not P.hb (by decide)), P.hv.kp hk (ty.notO P.hv (by decide)), hk.blk P.rb (ty.not P.rb (by decide)), hk.blk P.fb (ty.not P.fb (by decide)),
    P.kp.trans' hk (fun k hk e => e.elim (fun e => by have := B.t; omega) (fun e => by have := P.nt k e; omega)), fun g hg => (hV g hg).elim (P.tf g) (fun h e => by have := P.f.own.lt e; omega), P.th, fun g hg => (hV g hg).elim (P.nt g) (fun h => by have := P.kp.size; omega), P.nf, P.nT, P.nH⟩
/-- The network to the sender is another one. -/
theorem OnS.setF (P : OnS w ps pr pt pf bh br bf n on d V Vt Vf Tv Hv T H to fr wr) (B : OnB w ps pr pt pf bh br bf) {Vf' : Value} {fr' : List SlH} (hk : Kp (fun k => k = pf ∨ Vf.ownBlock = some k) wr w1) (t : NetS pf Vf' fr' w1) (hV : ∀ g, Vf'.ownBlock = some g → Vf.ownBlock = some g ∨ wr.heap.size ≤ g) : OnS w ps pr pt pf bh br bf n on d V Vt Vf' Tv Hv T H to fr' w1 := by
  have ty := (Ty.one P.f.blk).or (Ty.own P.f.own)
  have f0 : ∀ g, Vt.ownBlock = some g → ¬ (g = pf ∨ Vf.ownBlock = some g) := fun g hg e => e.elim (fun e => own_neB P.t.own P.f.blk (by decide) g hg e) (fun e => P.tf g hg e)
  exact ⟨P.s.far hk (ty.not P.s.blk (by decide)) (ty.notO P.s.own (by decide)), P.r.far hk (ty.not P.r.blk (by decide)), P.t.far hk (fun e => e.elim (fun e => B.tf e) (fun e => own_neB P.f.own P.t.blk (by decide) _ e rfl)) f0 (ty.byt (by decide)), t,
    P.tv.kp hk (ty.notO P.tv (by decide)), hk.blk P.hb (ty.not P.hb (by decide)), P.hv.kp hk (ty.notO P.hv (by decide)), hk.blk P.rb (ty.not P.rb (by decide)), hk.blk P.fb (ty.not P.fb (by decide)),
    P.kp.trans' hk (fun k hk e => e.elim (fun e => by have := B.f; omega) (fun e => by have := P.nf k e; omega)), fun g hg e => (hV g e).elim (P.tf g hg) (fun h => by have := P.t.own.lt hg; omega), P.th, P.nt, fun g hg => (hV g hg).elim (P.nf g) (fun h => by have := P.kp.size; omega), P.nT, P.nH⟩
/-- The receiver is another one: the heard list must follow. -/
theorem OnS.setR (P : OnS w ps pr pt pf bh br bf n on d V Vt Vf Tv Hv T H to fr wr) (B : OnB w ps pr pt pf bh br bf) (hk : Kp (fun k => k = pr) wr w1) (r : RcvS pr H.length w1) : OnS w ps pr pt pf bh br bf n on d V Vt Vf Tv Hv T H to fr w1 := by
  have ty := Ty.one P.r.blk
  exact ⟨P.s.far hk (ty.not P.s.blk (by decide)) (ty.notO P.s.own (by decide)), r, P.t.far hk (ty.not P.t.blk (by decide)) (ty.notO P.t.own (by decide)) (ty.byt (by decide)), P.f.far hk (ty.not P.f.blk (by decide)) (ty.notO P.f.own (by decide)) (ty.byt (by decide)),
    P.tv.kp hk (ty.notO P.tv (by decide)), hk.blk P.hb (ty.not P.hb (by decide)), P.hv.kp hk (ty.notO P.hv (by decide)), hk.blk P.rb (ty.not P.rb (by decide)), hk.blk P.fb (ty.not P.fb (by decide)), P.kp.newer hk B.r, P.tf, P.th, P.nt, P.nf, P.nT, P.nH⟩
/-- A thing is heard: the receiver, the row of what was heard, its box. -/
theorem OnS.setH (P : OnS w ps pr pt pf bh br bf n on d V Vt Vf Tv Hv T H to fr wr) (B : OnB w ps pr pt pf bh br bf) {w2 w3 : World} {e : List Nat} {Hv' : Value} (hk : Kp (fun k => k = pr) wr w1) (r : RcvS pr (H.length + 1) w1) (hk1 : Kp No w1 w2) (hk2 : Kp (fun k => Hv.ownBlock = some k) w2 w3) (o : Own STK 9 w3 Hv' (H ++ [e])) (hV : ∀ g, Hv'.ownBlock = some g → Hv.ownBlock = some g ∨ w2.heap.size ≤ g) :
    OnS w ps pr pt pf bh br bf n on d V Vt Vf Tv Hv' T (H ++ [e]) to fr (w3.setCell ⟨bh, 0, none⟩ Hv') := by
  have ty := Ty.one P.r.blk
  have tv1 := P.tv.kp hk (ty.notO P.tv (by decide))
  have hb1 := hk.blk P.hb (ty.not P.hb (by decide))
  have hv1 := P.hv.kp hk (ty.notO P.hv (by decide))
  have tv2 := tv1.kpNo hk1
  have hb2 := hk1.blk hb1 (no_no _)
  have hv2 := hv1.kpNo hk1
  have ty2 := Ty.own hv2
  have s1 := P.s.far hk (ty.not P.s.blk (by decide)) (ty.notO P.s.own (by decide))
  have t1 := P.t.far hk (ty.not P.t.blk (by decide)) (ty.notO P.t.own (by decide)) (ty.byt (by decide))
  have f1 := P.f.far hk (ty.not P.f.blk (by decide)) (ty.notO P.f.own (by decide)) (ty.byt (by decide))
  have rb1 := hk.blk P.rb (ty.not P.rb (by decide))
  have fb1 := hk.blk P.fb (ty.not P.fb (by decide))
  have s2 := s1.no hk1
  have t2 := t1.no hk1
  have f2 := f1.no hk1
  have r2 := r.no hk1
  have rb2 := hk1.blk rb1 (no_no _)
  have fb2 := hk1.blk fb1 (no_no _)
  have s3 := s2.far hk2 (ty2.not s2.blk (by decide)) (ty2.notO s2.own (by decide))
  have t3 := t2.far hk2 (ty2.not t2.blk (by decide)) (ty2.notO t2.own (by decide)) (ty2.byt (by decide))
  have f3 := f2.far hk2 (ty2.not f2.blk (by decide)) (ty2.notO f2.own (by decide)) (ty2.byt (by decide))
  have r3 := r2.far hk2 (ty2.not r2.blk (by decide))
  have rb3 := hk2.blk rb2 (ty2.not rb2 (by decide))
  have fb3 := hk2.blk fb2 (ty2.not fb2 (by decide))
  have hb3 := hk2.blk hb2 (ty2.not hb2 (by decide))
  have tv3 := tv2.kp hk2 P.th
  have hk3 := Kp.one (w := w3) (p := bh) 0 Hv'
  have ty3 := Ty.one hb3
  have kp1 : Kp No w w2 := (P.kp.newer hk B.r).no hk1
  have kp2 : Kp No w w3 := kp1.trans' hk2 (fun k hk e => by have := P.nH k e; omega)
  have hz : wr.heap.size ≤ w2.heap.size := Nat.le_trans hk.size hk1.size
  refine ⟨s3.far hk3 (ty3.not s3.blk (by decide)) (ty3.notO s3.own (by decide)), ?_, t3.far hk3 (ty3.not t3.blk (by decide)) (ty3.notO t3.own (by decide)) (ty3.byt (by decide)), f3.far hk3 (ty3.not f3.blk (by decide)) (ty3.notO f3.own (by decide)) (ty3.byt (by decide)),
    tv3.kp hk3 (ty3.notO tv3 (by decide)), (blk_set hb3 0 Hv').trans rfl, o.kp hk3 (ty3.notO o (by decide)), hk3.blk rb3 (ty3.not rb3 (by decide)), hk3.blk fb3 (ty3.not fb3 (by decide)), kp2.newer hk3 B.h, P.tf, fun g hg e => (hV g e).elim (P.th g hg) (fun h => by have := P.tv.lt hg; omega), P.nt, P.nf, P.nT, fun g hg => (hV g hg).elim (P.nH g) (fun h => by have := kp1.size; omega)⟩
  have := r3.far hk3 (ty3.not r3.blk (by decide))
  simpa using this
/-- A thing is told: the row of what was told. -/
theorem OnS.setL (P : OnS w ps pr pt pf bh br bf n on d V Vt Vf Tv Hv T H to fr wr) {T' : List (List Nat)} {Tv' : Value} (hk : Kp (fun k => Tv.ownBlock = some k) wr w1) (o : Own STK 9 w1 Tv' T') (hV : ∀ g, Tv'.ownBlock = some g → Tv.ownBlock = some g ∨ wr.heap.size ≤ g) :
    OnS w ps pr pt pf bh br bf n on d V Vt Vf Tv' Hv T' H to fr w1 := by
  have ty := Ty.own P.tv
  exact ⟨P.s.far hk (ty.not P.s.blk (by decide)) (ty.notO P.s.own (by decide)), P.r.far hk (ty.not P.r.blk (by decide)), P.t.far hk (ty.not P.t.blk (by decide)) (ty.notO P.t.own (by decide)) (ty.byt (by decide)), P.f.far hk (ty.not P.f.blk (by decide)) (ty.notO P.f.own (by decide)) (ty.byt (by decide)),
    o, hk.blk P.hb (ty.not P.hb (by decide)), P.hv.kp hk (fun g hg e => P.th g e hg), hk.blk P.rb (ty.not P.rb (by decide)), hk.blk P.fb (ty.not P.fb (by decide)), P.kp.trans' hk (fun k hk e => by have := P.nT k e; omega), P.tf, fun g hg e => (hV g hg).elim (fun h => P.th g h e) (fun h => by have := P.hv.lt e; omega), P.nt, P.nf, fun g hg => (hV g hg).elim (P.nT g) (fun h => by have := P.kp.size; omega), P.nH⟩
end
end Go.Proofs.Ytnejjjoedmefkaa
