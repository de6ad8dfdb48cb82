/- net.Net: New, Send, Peek, Take, Lose. -/
import Derived.Test.YtnejjjoedmefkaaSlH
import Derived.Test.YtnejjjoedmefkaaSl
import Derived.Test.YtnejjjoedmefkaaStr
import Derived.Test.YtnejjjoedmefkaaRefF
import Derived.Test.YtnejjjoedmefkaaTakS
import Derived.StillTailTactics
import Derived.Deep.RegionHeld3
namespace Go.Proofs.Ytnejjjoedmefkaa
set_option linter.unusedVariables false
set_option linter.unusedSimpArgs false
open Go.RowKit

theorem elS : ElT Try.prog 58 23 SHK 24 := ElT.of (z := .slice none 0 0) (by kernel_rfl) (by kernel_rfl) rfl
theorem zeroS : ∀ z, (Try.prog.info? 23).bind (·.zero) = some z → ∀ v ∈ z.cells.toList, v.oneCell' = true := by
  intro z hz
  obtain ⟨i, hi, h0, _, _⟩ := info_parts (P := Try.prog) (e := 23) (z := .slice none 0 0) (size := 1) (bytes := 24) (by kernel_rfl)
  rw [hi] at hz
  simp only [Option.bind_some, h0, Option.some.injEq] at hz
  subst hz
  intro v hv
  simp [Value.cells] at hv
  subst hv; rfl

/-- S names no block of bytes. -/
def Byt (w : World) (S : Nat → Prop) : Prop := ∀ g cs, w.heap[g]? = some (.cells cs 5 (0, 0)) → ¬ S g
theorem Byt.one {w : World} {p : Nat} {cs : Array Value} {t : TypeId} (h : w.heap[p]? = some (.cells cs t (0, 0))) (ht : t ≠ 5) : Byt w (fun k => k = p) := by
  rintro g cs' hg rfl
  rw [h] at hg
  simp only [Option.some.injEq, Obj.cells.injEq] at hg
  exact ht hg.2.1
theorem Byt.own {α : Type} {K : Kd α} {e : TypeId} {w : World} {V : Value} {l : List α} (h : Own K e w V l) (ht : e ≠ 5) : Byt w (fun k => V.ownBlock = some k) := by
  rintro g cs' hg hk
  rcases h with ⟨rfl, _⟩ | ⟨g', cap, cur, rfl, hb, _⟩
  · simp [Value.ownBlock] at hk
  · simp only [Value.ownBlock, Option.map_some, Option.some.injEq] at hk
    have hk : g' = g := hk
    subst hk
    rw [hb] at hg
    simp only [Option.some.injEq, Obj.cells.injEq] at hg
    exact ht hg.2.1
theorem Byt.or {w : World} {S T : Nat → Prop} (h : Byt w S) (k : Byt w T) : Byt w (fun g => S g ∨ T g) := fun g cs hg e => e.elim (h g cs hg) (k g cs hg)
theorem Byt.no (w : World) : Byt w No := fun _ _ _ => no_no _
theorem Own.kpB {w w' : World} {v : Value} {l : List Nat} {S : Nat → Prop} (h : Own BK 5 w v l) (hk : Kp S w w') (hs : Byt w S) : Own BK 5 w' v l := by
  refine h.kp hk fun g hg => ?_
  rcases h with ⟨rfl, _⟩ | ⟨g', cap, cur, rfl, hb, _⟩
  · simp [Value.ownBlock] at hg
  · have hg : g' = g := by simpa [Value.ownBlock] using hg
    subst hg
    exact hs g' cur hb
/-- The owned slices of two element types have two blocks. -/
theorem own_ne {α β : Type} {K : Kd α} {L : Kd β} {e f : TypeId} {w : World} {V U : Value} {l : List α} {m : List β} (h : Own K e w V l) (k : Own L f w U m) (ht : e ≠ f) : ∀ g, V.ownBlock = some g → ¬ U.ownBlock = some g := by
  intro g hg hk
  rcases h with ⟨rfl, _⟩ | ⟨g1, cap, cur, rfl, hb, _⟩
  · simp [Value.ownBlock] at hg
  rcases k with ⟨rfl, _⟩ | ⟨g2, cap2, cur2, rfl, hb2, _⟩
  · simp [Value.ownBlock] at hk
  have e1 : g1 = g := by simpa [Value.ownBlock] using hg
  have e2 : g2 = g := by simpa [Value.ownBlock] using hk
  subst e1 e2
  rw [hb] at hb2
  simp only [Option.some.injEq, Obj.cells.injEq] at hb2
  exact ht hb2.2.1
theorem own_neB {α : Type} {K : Kd α} {e t : TypeId} {w : World} {V : Value} {l : List α} {p : Nat} {cs : Array Value} (h : Own K e w V l) (k : w.heap[p]? = some (.cells cs t (0, 0))) (ht : e ≠ t) : ∀ g, V.ownBlock = some g → g ≠ p := by
  rintro g hg rfl
  rcases h with ⟨rfl, _⟩ | ⟨g1, cap, cur, rfl, hb, _⟩
  · simp [Value.ownBlock] at hg
  have e1 : g1 = g := by simpa [Value.ownBlock] using hg
  subst e1
  rw [hb] at k
  simp only [Option.some.injEq, Obj.cells.injEq] at k
  exact ht k.2.1

/-- A packet under way. -/
def SlH.own (w : World) (x : SlH) : Prop := Own BK 5 w x.val x.b ∧ ∀ y ∈ x.b, y < 256
theorem SlH.own.kpB {w w' : World} {x : SlH} {S : Nat → Prop} (h : x.own w) (hk : Kp S w w') (hs : Byt w S) : x.own w' := ⟨h.1.kpB hk hs, h.2⟩
theorem SlH.own.len {w : World} {x : SlH} (h : x.own w) : x.b.length ≤ maxLen := by
  rcases h.1 with ⟨_, e⟩ | ⟨_, _, _, _, _, a, b, _⟩
  · rw [e]; simp
  · omega

/-- A network: p points to it; V has the packets under way. -/
structure NetS (p : Nat) (V : Value) (l : List SlH) (w : World) : Prop where
  blk : w.heap[p]? = some (.cells #[V] 98 (0, 0))
  own : Own SHK 23 w V l
  el : ∀ x ∈ l, x.own w
section
variable {p : Nat} {V : Value} {l : List SlH} {w w' : World} {S : Nat → Prop}
theorem NetS.far (h : NetS p V l w) (hk : Kp S w w') (hp : ¬ S p) (hv : ∀ g, V.ownBlock = some g → ¬ S g) (hs : Byt w S) : NetS p V l w' :=
  ⟨hk.blk h.blk hp, h.own.kp hk hv, fun x hx => (h.el x hx).kpB hk hs⟩
theorem NetS.no (h : NetS p V l w) (hk : Kp No w w') : NetS p V l w' := h.far hk (no_no _) (fun _ _ => no_no _) (Byt.no w)
theorem NetS.byt (h : NetS p V l w) : Byt w (fun k => k = p ∨ V.ownBlock = some k) := (Byt.one h.blk (by decide)).or (Byt.own h.own (by decide))
theorem NetS.ne2 (h : NetS p V l w) (q : Prop) : ¬ V.ownBlock = some p := fun e => own_neB h.own h.blk (by decide) p e rfl
theorem NetS.ne (h : NetS p V l w) : ∀ g, V.ownBlock = some g → g ≠ p := own_neB h.own h.blk (by decide)
end

theorem newNet_any (w : World) : Calls Try.prog 29 #[] w fun e w' => ∃ p, e = .returned (.pointer (some ⟨p, 0, none⟩)) ∧ NetS p (.slice none 0 0) [] w' ∧ Kp No w w' ∧ w.heap.size ≤ p ∧ p < w'.heap.size := by
  go_enter Try.func29, Try.ntmps29
  go_wp2
  go_ret
  exact ⟨w.heap.size, rfl, ⟨blk_new w _, Own.nil _ _ _, by simp⟩, (Kp.refl _ _).alloc _, Nat.le_refl _, by simp⟩

/-- A new slice is handed back. -/
def RetS {α : Type} (K : Kd α) (e : TypeId) (l : List α) (w : World) (en : Ending) (w' : World) : Prop := ∃ v', en = .returned v' ∧ NewS K e w w' v' l
theorem cloneB_any {w : World} {v : Value} {l : List Nat} (h : Rd BK w v l) (hl : l.length ≤ 1000000) : Calls Try.prog 55 #[v] w (RetS BK 5 l w) := by
  have qe := fun (w : World) (a : Option Addr) (n c : Nat) => Lib.run_eql_slice_nil (P := Try.prog) w 23 5 a n c 0 0 Try.underlying23
  obtain ⟨A, cap, rfl⟩ := h.shape
  have H := Lib.hid h
  clear h
  cases A with
  | none =>
    have hl0 : l = [] := by
      rcases H.out with ⟨_, e⟩ | ⟨g, o, c, e, _⟩
      · exact e
      · simp at e
    subst hl0
    go_enter Try.func55, Try.ntmps55
    go_wp2
    go_ret
    exact ⟨_, rfl, NewS.nil _ _ _⟩
  | some a =>
    go_enter Try.func55, Try.ntmps55
    go_wp2_with (at_builtin; refine wpl_append elB rfl (.tmp 5) (.tmp 6) rfl rfl rfl (l := []) (m := l) ?c1 ?c2 ?c3 ?c4 ?c5)
    case c1 => exact (NewS.empty BK 5 w).own
    case c2 => exact H.out.alloc _
    case c3 => have z : l.length ≤ maxLen := (by unfold maxLen; omega); simpa using z
    case c4 => have z : l.length ≤ 140737488355328 := (by omega); simpa using z
    case c5 =>
      intro v' w' m1 m2 m3
      have q : NewS BK 5 w w' v' l := (NewS.empty BK 5 w).app (Kp.refl _ _) m1 m2 m3 (by simp)
      have Q := Lib.hid q
      clear m1 m2 m3 q
      go_wp2
      go_ret
      exact ⟨_, rfl, Q.out⟩

def hasB (n : Nat) (x : Int) : Bool := decide (0 ≤ x) && decide (x < n)
set_option maxRecDepth 100000 in
theorem has_any (w : World) (A : Option Addr) (n c : Nat) (x : Int) : Calls Try.prog 57 #[.slice A n c, .int .i64 x] w fun e w' => e = .returned (.bool (hasB n x)) ∧ w = w' := by
  by_cases h : 0 ≤ x
  · by_cases h2 : x < n
    · have hb : hasB n x = true := by unfold hasB; simp [h, h2]
      rw [hb]; clear hb
      go_enter Try.func57, Try.ntmps57
      go_wp2
      go_ret
      exact ⟨rfl, rfl⟩
    · have hb : hasB n x = false := by unfold hasB; simp [h2]
      rw [hb]; clear hb
      go_enter Try.func57, Try.ntmps57
      go_wp2
      go_ret
      exact ⟨rfl, rfl⟩
  · have hb : hasB n x = false := by unfold hasB; simp [h]
    rw [hb]; clear hb
    go_enter Try.func57, Try.ntmps57
    go_wp2
    go_ret
    exact ⟨rfl, rfl⟩

theorem rd_one (w : World) (x : SlH) : Rd SHK (w.alloc (.cells #[x.val] 23)) (.slice (some ⟨w.heap.size, 0, none⟩) 1 1) [x] :=
  Rd.litAt SHK 23 w #[x.val] [x] rfl (by unfold maxLen; simp) _ 1 rfl rfl

theorem net_mid {p : Nat} {V : Value} {l : List SlH} {w2 w3 : World} {o : Obj} (h : NetS p V l w2) (m : Kp (fun k => V.ownBlock = some k) (w2.alloc o) w3) : w3.frozen? ⟨p, 0, none⟩ = false ∧ w3.cell? ⟨p, 0, none⟩ = some V := by
  have b := m.blk (((Kp.refl No w2).alloc o).blk h.blk (no_no _)) (h.ne2 True)
  exact ⟨blk_free b 0, (blk_cell b 0).trans rfl⟩
/-- The net, when its row has been stored back. -/
theorem net_back {p : Nat} {V V' : Value} {l l' : List SlH} {w w3 : World} (h : NetS p V l w) (m : Kp (fun k => V.ownBlock = some k) w w3) (o : Own SHK 23 w3 V' l') (el : ∀ x ∈ l', x.own w3) :
    NetS p V' l' (w3.setCell ⟨p, 0, none⟩ V') ∧ Kp (fun k => k = p ∨ V.ownBlock = some k) w (w3.setCell ⟨p, 0, none⟩ V') := by
  have b := m.blk h.blk (h.ne2 True)
  have hk := Kp.one (w := w3) (p := p) 0 V'
  have hb := Byt.one b (by decide)
  exact ⟨⟨(blk_set b 0 V').trans rfl, o.kp hk (own_neB o b (by decide)), fun x hx => (el x hx).kpB hk hb⟩, (m.mono fun _ _ e => .inr e).trans (hk.mono fun _ _ e => .inl e)⟩

/-- Behind Send. -/
def SendR (p : Nat) (V : Value) (l : List SlH) (d : List Nat) (w : World) (e : Ending) (w' : World) : Prop :=
  (l.length < 1024 ∧ e = .returned (.int .i64 0) ∧ ∃ V' x, x.b = d ∧ NetS p V' (l ++ [x]) w' ∧ Kp (fun k => k = p ∨ V.ownBlock = some k) w w' ∧ ∀ g, V'.ownBlock = some g → V.ownBlock = some g ∨ w.heap.size ≤ g) ∨
    (1024 ≤ l.length ∧ e = .returned (.int .i64 4) ∧ w = w')

set_option maxRecDepth 100000 in
theorem send_any {w : World} {p : Nat} {V v : Value} {l : List SlH} {d : List Nat} (h : NetS p V l w) (hv : Rd BK w v d) (hd : d.length ≤ 1000000) (hx : ∀ y ∈ d, y < 256) :
    Calls Try.prog 31 #[.pointer (some ⟨p, 0, none⟩), v] w (SendR p V l d w) := by
  obtain ⟨A, cap, rfl⟩ := h.own.rd.shape
  have c0 : w.cell? ⟨p, 0, none⟩ = some (.slice A l.length cap) := (blk_cell h.blk 0).trans rfl
  have f0 : w.frozen? ⟨p, 0, none⟩ = false := blk_free h.blk 0
  have H := Lib.hid h; have HV := Lib.hid hv; have HX := Lib.hid hx
  clear h hv hx
  by_cases hl : 1024 ≤ l.length
  · have hlI : (1024 : Int) ≤ (l.length : Int) := by omega
    have HL := Lib.hid hl
    clear hl
    go_enter Try.func31, Try.ntmps31
    go_wp2
    go_ret
    exact .inr ⟨HL.out, rfl, rfl⟩
  · have hlI : ¬ (1024 : Int) ≤ (l.length : Int) := by omega
    have hl2 : l.length < 1024 := by omega
    clear hl
    go_enter Try.func31, Try.ntmps31
    go_wp2
    go_region_law (first
      | (refine stp_append elS rfl (.tmp 19) (.tmp 22) rfl rfl rfl (N2.out.no ((Kp.refl No w2).alloc _)).own E2.out (by unfold maxLen; simp; omega) (by simp; omega) ?_; intro v3 w3 m1 m2 m3; obtain ⟨A3, c3, rfl⟩ := m1.rd.shape; have F3 : w3.frozen? ⟨p, 0, none⟩ = false := (net_mid N2.out m2).1; have C3 : w3.cell? ⟨p, 0, none⟩ = some (.slice A l.length cap) := (net_mid N2.out m2).2; have M1 := Lib.hid m1; have M2 := Lib.hid m2; have M3 := Lib.hid m3; clear m1 m2 m3)
      | (go_simp; go_at_call 55; refine (cloneB_any (w := w.drew) (HV.out.kpNo (Kp.refl No w).drew) hd).mono ?_; rintro e w2 ⟨v2, rfl, k2⟩; obtain ⟨A2, c2, rfl⟩ := k2.own.rd.shape; have E2 := Lib.hid (rd_one w2 ⟨A2, c2, d⟩); have N2 := Lib.hid (H.out.no k2.kp.ofDrew); have K2 := Lib.hid k2; have C2 : w2.cell? ⟨p, 0, none⟩ = some (.slice A l.length cap) := (blk_cell N2.out.blk 0).trans rfl; have D2 : ∀ o, (w2.alloc o).cell? ⟨p, 0, none⟩ = some (.slice A l.length cap) := (fun o => (blk_cell (blk_alloc N2.out.blk o) 0).trans rfl); clear k2))
    all_goals
      go_wp2
      go_ret
      have kk : Kp (fun k => (Value.slice A l.length cap).ownBlock = some k) w w3 := (((K2.out.kp.ofDrew.alloc _).mono fun _ _ e => e.elim).trans M2.out)
      have el : ∀ x ∈ l ++ [⟨A2, c2, d⟩], SlH.own w3 x := by
        intro x hx
        rcases List.mem_append.1 hx with hx | hx
        · exact (H.out.el x hx).kpB kk (Byt.own H.out.own (by decide))
        · rw [List.mem_singleton.1 hx]
          exact ⟨(K2.out.own.alloc _).kpB M2.out (Byt.own (N2.out.no ((Kp.refl No w2).alloc _)).own (by decide)), HX.out⟩
      obtain ⟨r1, r2⟩ := net_back H.out kk M1.out el
      refine .inl ⟨hl2, rfl, .slice A3 (l.length + 1) c3, ⟨A2, c2, d⟩, rfl, ?_, ?_, fun g hg => (M3.out g ?_).imp id fun e => ?_⟩
      · simpa using r1
      · simpa using r2
      · simpa using hg
      · have := ((K2.out.kp.ofDrew.alloc (.cells #[.slice A2 d.length c2] 23)).size); omega
end Go.Proofs.Ytnejjjoedmefkaa
