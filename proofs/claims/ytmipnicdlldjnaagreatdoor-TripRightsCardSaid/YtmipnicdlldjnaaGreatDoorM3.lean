/- One int is appended to a slice in new memory; floor.Near, floor.Lanes; Floors of given texts, plain: checked by reckoning; strings.Split at the separator of one byte, over any program: no cell of memory is asked for; The library's functions at this program: strings.Split, strings.Join and others, as the shelf lays them (written by the kit's tool; what is not wanted is left out); strings.Split at this program; floor.may; floor.Parse; floor's functions: contracts ready for use; A block that holds just a list of one-cell elements; make; path, memory: a plan; path.of; path: (*plan).steps; Heaps, plain: entries, what is ahead, up and down. No function of the program. No condition. -/
import Derived.Test.YtmipnicdlldjnaaGreatDoorM1
import Derived.Test.YtmipnicdlldjnaaGreatDoorM2
import Derived.Shelf.Strings.Split
import Derived.Shelf.Strings.OnBuilder
import Derived.Test.YtmipnicdlldjnaaGreatDoorProg
import Derived.Deep.RegionHeld3
import Derived.Deep.RegionLaw
import Derived.Deep.CutBlock
import Derived.Deep.DeepCutAuto
import Derived.Deep.Cut
import Derived.Deep.CutRange
import Derived.Laws.MakeOwn

namespace Go.Proofs.YtmipnicdlldjnaaGreatDoor
set_option linter.unusedVariables false
set_option linter.unusedSimpArgs false
open Go.RowKit

theorem NewS.from_ {α : Type} {K : Kd α} {e : TypeId} {w w3 w' : World} {v : Value} {l : List α} (h : NewS K e w3 w' v l) (hk : Kp No w w3) : NewS K e w w' v l :=
  ⟨h.own, fun g hg => Nat.le_trans hk.size (h.ge g hg), hk.no h.kp⟩
theorem wpl_snocZ {w w0 : World} {ops : Array Oper} {rest : List Oper} {o : Oper} {a : Act} {Q : Exit → Act → World → Prop} (hgd : o.guard = none) (s x : Operand)
    (ho : o.op = .call { callee := .builtin .append, args := #[s, x], argTypes := #[24, 24] }) {v : Value} {b m : Nat} {n : Nat} {z : Int} {L : List Nat} (hs : a.eval s = v) (hxv : a.eval x = .slice (some ⟨b, 0, none⟩) 1 1) (hb : b = w.heap.size) (hz : z = (n : Int))
    (ns : NewS IK 3 w0 w v (ints L)) (hm : m = L.length) (hl : m ≤ 1000000)
    (h : ∀ A q w', NewS IK 3 w0 w' (.slice A (m + 1) q) (ints (L ++ [n])) → Kp (fun k => v.ownBlock = some k) w w' → (∀ g, (Value.slice A (m + 1) q).ownBlock = some g → v.ownBlock = some g ∨ w.heap.size ≤ g) → wpList Tryz.prog ops Q rest (a.put o.dst (.slice A (m + 1) q)) w') :
    wpList Tryz.prog ops Q (o :: rest) a (w.alloc (.cells #[.int .i64 z] 3)) := by
  subst hb hm hz
  refine wpl_append elI hgd s x ho hs hxv (l := ints L) (m := [(n : Int)]) (ns.own.alloc _) (Rd.litAt IK 3 _ _ [(n : Int)] rfl (by unfold maxLen; simp) _ _ rfl rfl) (by rw [ints_len]; unfold maxLen; simp; omega) (by rw [ints_len]; simp; omega) ?_
  intro v' w' k1 k2 k3
  have e : ints L ++ [(n : Int)] = ints (L ++ [n]) := by simp [ints]
  rw [e] at k1
  have q := NewS.app2 k1 k2 k3 ((Kp.refl No w).alloc (.cells #[.int .i64 (n : Int)] 3)) ns (by simp)
  obtain ⟨A, c, rfl⟩ := k1.rd.shape
  rw [ints_len, List.length_append, List.length_singleton] at q k3 ⊢
  exact h A c w' q (((Kp.refl _ w).alloc _).trans k2) (fun g hg => by
    rcases k3 g hg with h | h
    · exact .inl h
    · simp at h
      exact .inr (by omega))
theorem wpl_snocI {w w0 : World} {ops : Array Oper} {rest : List Oper} {o : Oper} {a : Act} {Q : Exit → Act → World → Prop} (hgd : o.guard = none) (s x : Operand)
    (ho : o.op = .call { callee := .builtin .append, args := #[s, x], argTypes := #[24, 24] }) {v : Value} {b m : Nat} {n : Nat} {L : List Nat} (hs : a.eval s = v) (hxv : a.eval x = .slice (some ⟨b, 0, none⟩) 1 1) (hb : b = w.heap.size)
    (ns : NewS IK 3 w0 w v (ints L)) (hm : m = L.length) (hl : m ≤ 1000000)
    (h : ∀ A q w', NewS IK 3 w0 w' (.slice A (m + 1) q) (ints (L ++ [n])) → Kp (fun k => v.ownBlock = some k) w w' → (∀ g, (Value.slice A (m + 1) q).ownBlock = some g → v.ownBlock = some g ∨ w.heap.size ≤ g) → wpList Tryz.prog ops Q rest (a.put o.dst (.slice A (m + 1) q)) w') :
    wpList Tryz.prog ops Q (o :: rest) a (w.alloc (.cells #[.int .i64 (n : Int)] 3)) :=
  wpl_snocZ hgd s x ho hs hxv hb rfl ns hm hl h
end Go.Proofs.YtmipnicdlldjnaaGreatDoor

namespace Go.Proofs.YtmipnicdlldjnaaGreatDoor
set_option linter.unusedVariables false
set_option linter.unusedSimpArgs false
open Go.RowKit

def nearTo (s : ByteArray) (W H c j : Nat) : List Nat := ((besideP W H c).take j).filter fun x => kdS s x != 1
theorem nearTo_in {s : ByteArray} {W H c j b : Nat} (h : (besideP W H c)[j]? = some b) (hk : kdS s b ≠ 1) : nearTo s W H c (j + 1) = nearTo s W H c j ++ [b] := by
  unfold nearTo; rw [List.take_add_one, h, List.filter_append]; simp [hk]
theorem nearTo_out {s : ByteArray} {W H c j b : Nat} (h : (besideP W H c)[j]? = some b) (hk : kdS s b = 1) : nearTo s W H c (j + 1) = nearTo s W H c j := by
  unfold nearTo; rw [List.take_add_one, h, List.filter_append]; simp [hk]
theorem nearTo_len (s : ByteArray) (W H c j : Nat) : (nearTo s W H c j).length ≤ 4 := by
  refine Nat.le_trans (List.length_filter_le _ _) (Nat.le_trans (List.length_take_le' _ _) ?_)
  rw [← bsA_four]; exact bsA_len W H c 4
theorem kd_35 (c : Nat) (hk : kindB c ≠ 1) : c ≠ 35 := by rintro rfl; exact hk rfl
theorem kd_35' (c : Nat) (hk : kindB c = 1) : c = 35 := kd_wall hk
theorem besideP_len (W H c : Nat) : (besideP W H c).length ≤ 4 := by rw [← bsA_four]; exact bsA_len W H c 4

structure NIdx (f : Flr) (c : Int) (W H j : Nat) : Prop where
  W1 : 1 ≤ W
  W2 : W ≤ 16
  H1 : 1 ≤ H
  H2 : H ≤ 16
  fW : f.W = W
  fH : f.H = H
  s : f.s.size = W * H
  c : c = j
  jl : j < W * H
theorem isB_idx {f : Flr} {c k : Int} (h : isB f c k = true) : ∃ W H j : Nat, NIdx f c W H j := by
  obtain ⟨h1, h2, h3, h4⟩ := isB_iff.1 h
  refine ⟨f.W.toNat, f.H.toNat, c.toNat, ?_⟩
  have hW := Int.toNat_of_nonneg (show 0 ≤ f.W from by have := h4.w1; omega)
  have hH := Int.toNat_of_nonneg (show 0 ≤ f.H from by have := h4.h1; omega)
  have hs : f.s.size = f.W.toNat * f.H.toNat := by
    have := h4.len
    rw [← hW, ← hH] at this
    exact_mod_cast this
  exact ⟨by have := h4.w1; omega, by have := h4.w2; omega, by have := h4.h1; omega, by have := h4.h2; omega, hW.symm, hH.symm, hs, by omega, by rw [← hs]; omega⟩

set_option maxHeartbeats 1000000 in
set_option maxRecDepth 100000 in
theorem near_any (f : Flr) (hsz : f.s.size ≤ 9223372036854775807) (c : Int) (hc : c ≤ 9223372036854775807) (w : World) :
    Calls Tryz.prog 47 #[f.val, .int .i64 c] w fun e w' => ∃ v, e = .returned v ∧ NewS IK 3 w w' v (ints (nearP f c)) := by
  have HBX := Lib.hid (BxW.new f w)
  obtain ⟨N, hN⟩ : ∃ N, N = nearP f c := ⟨_, rfl⟩
  rw [← hN]
  by_cases hok : isB f c 2 = true ∨ isB f c 3 = true
  · obtain ⟨b, hb⟩ : ∃ b, isB f c 2 = b := ⟨_, rfl⟩
    have HIS := Lib.hid (is_at f hsz c 2 hc b hb)
    have hb3 : b = false → isB f c 3 = true := by rintro rfl; rcases hok with h | h; exact absurd h (by simp [hb]); exact h
    have HI3 := Lib.hid (fun h => is_at f hsz c 3 hc true (hb3 h))
    obtain ⟨W, H, j, ix⟩ : ∃ W H j : Nat, NIdx f c W H j := by rcases hok with h | h <;> exact isB_idx h
    have hN' : N = nearTo f.s W H j (besideP W H j).length := by
      rw [hN]; unfold nearP nearTo
      rw [if_pos hok, List.take_length, ix.fW, ix.fH, ix.c]; simp
    obtain ⟨X, Y, s⟩ := f
    obtain ⟨hW1, hW, hH1, hH, hfW, hfH, hs, hcj, hjl⟩ := ix
    simp only at hfW hfH hs hN'
    subst hfW hfH hcj
    unfold Flr.val at HIS HI3 ⊢
    simp only at HIS HI3 ⊢
    have HS := Lib.hid hs
    have HN := Lib.hid hN'
    have HJL := Lib.hid hjl
    clear hok hN' hN hb hb3 hs hsz hjl
    cases b
    all_goals
      go_enter Tryz.func47, Tryz.ntmps47
      go_wp2_with fail
      refine (HIS.out _).mono ?_
      rintro e w1 ⟨rfl, kp1⟩
      have B1 := Lib.hid (HBX.out.no kp1)
      have hb0 : w1.cell? ⟨w.heap.size, 0, none⟩ = some (.int .i64 (W : Int)) := B1.out.c0
      have hb1 : w1.cell? ⟨w.heap.size, 1, none⟩ = some (.int .i64 (H : Int)) := B1.out.c1
      have hb2 : w1.cell? ⟨w.heap.size, 2, none⟩ = some (.string s) := B1.out.c2
      clear kp1
      go_wp2_with fail
      try (
        refine (HI3.out (by simp) _).mono ?_
        rintro e w2 ⟨rfl, kp2⟩
        have B2 := Lib.hid (B1.out.no kp2)
        clear hb0 hb1 hb2 B1
        have B1 := B2
        have hb0 : w2.cell? ⟨w.heap.size, 0, none⟩ = some (.int .i64 (W : Int)) := B1.out.c0
        have hb1 : w2.cell? ⟨w.heap.size, 1, none⟩ = some (.int .i64 (H : Int)) := B1.out.c1
        have hb2 : w2.cell? ⟨w.heap.size, 2, none⟩ = some (.string s) := B1.out.c2
        clear kp2 B2
        go_wp2_with fail)
      refine (beside_any W H j s hW1 hW hH1 hH HJL.out _).mono ?_
      rintro e w3 ⟨vB, rfl, nb⟩
      obtain ⟨AB, qB, rfl⟩ := nb.own.rd.shape
      rw [ints_len] at nb ⊢
      obtain ⟨nB, hnB⟩ : ∃ nB, nB = (besideP W H j).length := ⟨_, rfl⟩
      have hB4 : nB ≤ 4 := by rw [hnB]; exact besideP_len W H j
      rw [← hnB] at nb ⊢
      have HNB := Lib.hid hnB
      have B3 := Lib.hid (B1.out.no nb.kp); have OB := Lib.hid nb.own
      clear nb hnB hb0 hb1 hb2
      go_wp2_with fail
      go_loopg [5, 22] (nB + 1) (fun g2 v ii wx => ∃ (i m : Nat) (A : Option Addr) (q : Nat), g2 = nB + 1 - i ∧ ii = .int .i64 i ∧ i ≤ nB ∧ v = .slice A m q ∧ m = (nearTo s W H j i).length ∧ NewS IK 3 w3 wx v (ints (nearTo s W H j i)))
      case atStart => exact ⟨0, 0, none, 0, rfl, rfl, by omega, rfl, rfl, NewS.nil _ _ _⟩
      case round =>
        obtain ⟨i, m, A, q, hgi, rfl, hi, rfl, hm, ns⟩ := hrel
        have hm4 : m ≤ 4 := by rw [hm]; exact nearTo_len s W H j i
        have HM := Lib.hid hm; have NS := Lib.hid ns
        clear hm ns
        by_cases hlt : i < nB
        · have hltI : (i : Int) < (nB : Int) := by omega
          have hwi : IntKind.i64.wrap ((i : Int) + 1) = (i : Int) + 1 := IntWalk.i64_in _ (by omega)
          obtain ⟨x, hx⟩ : ∃ x, (besideP W H j)[i]? = some x := ⟨_, List.getElem?_eq_getElem (by rw [← HNB.out]; exact hlt)⟩
          have hxs : x < s.size := by rw [HS.out]; exact beside_lt hW1 HJL.out (List.mem_of_getElem? hx)
          have hxsI : (x : Int) < ((s.size : Nat) : Int) := by omega
          rcases OB.out.b with ⟨hv, _⟩ | ⟨gB, capB, hv, _, _, _⟩
          · simp only [Value.slice.injEq] at hv; omega
          simp only [Value.slice.injEq] at hv
          obtain ⟨rfl, hzz, rfl⟩ := hv
          clear hzz
          have hcb : wr.cell? ⟨gB, i, none⟩ = some (.int .i64 (x : Int)) := by have := (OB.out.kpNo NS.out.kp).rd.intAt (ints_get hx); simpa using this
          have hb2 : wr.cell? ⟨w.heap.size, 2, none⟩ = some (.string s) := (B3.out.no NS.out.kp).c2
          have hbt := bt_at s x
          have hbl := bt_lt s x
          obtain ⟨B, hB⟩ : ∃ B, B = bt s x := ⟨_, rfl⟩
          rw [← hB] at hbt hbl
          by_cases h35 : B = 35
          · have h35b : ((B : Int) != 35) = false := by simp [h35]
            have HL := Lib.hid (nearTo_out hx (s := s) (show kindB (bt s x) = 1 by rw [← hB, h35]; rfl))
            clear hx hB h35 hlt hxs
            go_wp2_with fail
            go_roundg (nB + 1 - (i + 1))
            case measure => omega
            case rel => exact ⟨i + 1, m, A, q, rfl, by go_num, by omega, rfl, by rw [HL.out]; exact HM.out, by rw [HL.out]; exact NS.out⟩
          · have h35b : ((B : Int) != 35) = true := by simp; omega
            have HL := Lib.hid (nearTo_in hx (s := s) (show kindB (bt s x) ≠ 1 from fun e => h35 (by rw [hB]; exact kd_wall e)))
            clear hx hB h35 hlt hxs
            go_wp2_with (at_builtin; refine wpl_snocI rfl (.tmp 31) (.tmp 33) rfl rfl rfl rfl NS.out HM.out (by omega) ?_; intro A2 q2 w4 n4 k4 _; have N4 := Lib.hid n4; clear n4 k4 hcb hb2)
            go_roundg (nB + 1 - (i + 1))
            case measure => omega
            case rel => exact ⟨i + 1, m + 1, A2, q2, rfl, by go_num, by omega, rfl, by rw [HL.out, List.length_append, ← HM.out]; rfl, by rw [HL.out]; exact N4.out⟩
        · obtain rfl : i = nB := by omega
          have hd0 : ¬ (i : Int) < (i : Int) := by omega
          have HL := Lib.hid (show N = nearTo s W H j i by rw [HN.out, ← HNB.out])
          clear hlt
          go_wp2_with fail
          go_ret
          exact ⟨_, rfl, by rw [HL.out]; exact NS.out.from_ B3.out.kp⟩
  · have h2 : isB f c 2 = false := by simpa using fun h => hok (.inl h)
    have h3 : isB f c 3 = false := by simpa using fun h => hok (.inr h)
    have HIS := Lib.hid (is_at f hsz c 2 hc false h2)
    have HI3 := Lib.hid (is_at f hsz c 3 hc false h3)
    have HN := Lib.hid (show N = [] by rw [hN]; unfold nearP; rw [if_neg hok])
    unfold Flr.val at HIS HI3 ⊢
    clear hok h2 h3 hN
    go_enter Tryz.func47, Tryz.ntmps47
    go_wp2_with fail
    refine (HIS.out _).mono ?_
    rintro e w1 ⟨rfl, kp1⟩
    have B1 := Lib.hid (HBX.out.no kp1)
    have hb0 := B1.out.c0; have hb1 := B1.out.c1; have hb2 := B1.out.c2
    clear kp1
    go_wp2_with fail
    refine (HI3.out _).mono ?_
    rintro e w2 ⟨rfl, kp2⟩
    have B2 := Lib.hid (B1.out.no kp2)
    clear kp2 hb0 hb1 hb2
    go_wp2_with fail
    go_ret
    exact ⟨_, rfl, by rw [HN.out]; exact ⟨Own.nil _ _ _, by simp [Value.ownBlock], B2.out.kp⟩⟩

end Go.Proofs.YtmipnicdlldjnaaGreatDoor

namespace Go.Proofs.YtmipnicdlldjnaaGreatDoor
set_option linter.unusedVariables false
set_option linter.unusedSimpArgs false
open Go.RowKit

def stepC (W H : Nat) (s : ByteArray) (on : List Nat) : List Nat := on ++ (on.flatMap (besideP W H)).filter fun j => decide (laneI s j)
def iterC (W H : Nat) (s : ByteArray) : Nat → List Nat → List Nat
  | 0, on => on
  | n + 1, on => iterC W H s n ((stepC W H s on).eraseDups)
def docksC (s : ByteArray) : List Nat := (List.range (docksP s s.size).length).map fun r => (dockAt s r).getD 0
def dockOkC (s : ByteArray) (ds : List Nat) : Bool := !ds.isEmpty && (List.range ds.length).all (fun r => match ds[r]? with
    | some i => decide (i < s.size) && kdS s i == 3 && bt s i == 48 + r
    | none => false) && (List.range s.size).all fun i => if kdS s i = 3 then ds[bt s i - 48]? == some i else true
def rightC (W H : Nat) (s : ByteArray) : Bool :=
  decide (1 ≤ W) && decide (W ≤ 16) && decide (1 ≤ H) && decide (H ≤ 16) && decide (s.size = W * H) && (List.range s.size).all (fun i => kdS s i != 0) && dockOkC s (docksC s) &&
  (match (lanesTo s s.size).head? with
    | some l => let on := iterC W H s s.size [l]; (lanesTo s s.size).all fun i => on.contains i
    | none => false) &&
  (List.range s.size).all fun i => if kdS s i = 3 then (besideP W H i).any (fun j => decide (laneI s j)) else true
theorem eraseDups_mem {l : List Nat} {x : Nat} : x ∈ l.eraseDups ↔ x ∈ l := by simp
theorem iterC_conn {W H l : Nat} {s : ByteArray} : ∀ (n : Nat) (on : List Nat), (∀ j ∈ on, Conn W H s l j) → ∀ j ∈ iterC W H s n on, Conn W H s l j := by
  intro n
  induction n with
  | zero => intro on h; exact h
  | succ n ih =>
    intro on h
    refine ih _ fun j hj => ?_
    rw [eraseDups_mem] at hj
    rcases List.mem_append.1 hj with hj | hj
    · exact h j hj
    · obtain ⟨h1, h2⟩ := List.mem_filter.1 hj
      obtain ⟨i, h3, h4⟩ := List.mem_flatMap.1 h1
      exact .step (h i h3) h4 (by simpa using h2)
theorem dockOkC_ok {s : ByteArray} {ds : List Nat} (h : dockOkC s ds = true) : DocksL s ds := by
  unfold dockOkC at h
  simp only [Bool.and_eq_true, List.all_eq_true, List.mem_range] at h
  obtain ⟨⟨h1, h2⟩, h3⟩ := h
  refine ⟨by simpa using h1, fun r i hr => ?_, fun i hi hk => ?_⟩
  · have := h2 r (List.getElem?_eq_some_iff.1 hr).1
    rw [hr] at this
    simp at this
    exact ⟨this.1.1, this.1.2, this.2⟩
  · have := h3 i hi
    rw [if_pos hk] at this
    simpa using this
theorem rightC_ok {W H : Nat} {s : ByteArray} (h : rightC W H s = true) : rightB ⟨W, H, s⟩ = true := by
  unfold rightC at h
  simp only [Bool.and_eq_true, List.all_eq_true, List.mem_range, decide_eq_true_eq] at h
  obtain ⟨⟨⟨⟨⟨⟨⟨⟨h1, h2⟩, h3⟩, h4⟩, h5⟩, h6⟩, h7⟩, h8⟩, h9⟩ := h
  refine rightB_t ⟨by simp; omega, by simp; omega, by simp; omega, by simp; omega, by simp [h5], fun i hi => by simpa using h6 i hi, ⟨_, dockOkC_ok h7⟩, ?_, fun i hi hk => ?_⟩
  · cases hl : (lanesTo s s.size).head? with
    | none => rw [hl] at h8; simp at h8
    | some l =>
      rw [hl] at h8
      simp only [List.all_eq_true, List.contains_iff_mem] at h8
      have hlm := lanesTo_mem.1 (List.mem_of_head? hl)
      refine (joined_one (by simpa using h1) (by simpa using h5) (l := l) hlm).2 fun j hj => ?_
      have := h8 j (lanesTo_mem.2 hj)
      simpa using iterC_conn s.size [l] (fun j hj => by rw [List.mem_singleton.1 hj]; exact .refl) j this
  · have := h9 i hi
    rw [if_pos hk] at this
    simp only [List.any_eq_true, decide_eq_true_eq] at this
    simpa using this
theorem parseP_of {s : ByteArray} {R : List ByteArray} {W H : Nat} {S : ByteArray} (hR : rowsB s = R) (hb : badRow R = none) (hW : (R.getD 0 ByteArray.empty).size = W) (hH : R.length = H) (hS : joinB R = S) (hr : rightC W H S = true) :
    parseP s = (⟨W, H, S⟩, 0, 0) := by
  unfold parseP
  rw [hR, hb]
  simp only
  rw [hW, hH, hS, if_pos (rightC_ok hr)]
theorem parseP_not {s : ByteArray} {R : List ByteArray} {W H : Nat} {S : ByteArray} (hR : rowsB s = R) (hb : badRow R = none) (hW : (R.getD 0 ByteArray.empty).size = W) (hH : R.length = H) (hS : joinB R = S) (hr : rightB ⟨W, H, S⟩ = false) :
    parseP s = (Flr.zero, H, 30) := by
  unfold parseP
  rw [hR, hb]
  simp only
  rw [hW, hH, hS, if_neg (by rw [hr]; simp)]
theorem nearP_at {f : Flr} {j W H : Nat} (hb : rightB f = true) (hj : j < f.s.size) (hW : f.W = W) (hH : f.H = H) (hk : kdS f.s j = 2 ∨ kdS f.s j = 3) : nearP f j = (besideP W H j).filter fun x => kdS f.s x != 1 := by
  unfold nearP
  rw [hW, hH, if_pos]
  · simp
  · rcases hk with h | h
    · exact .inl (isB_iff.2 ⟨by omega, by omega, by simp [h], rightB_iff.1 hb⟩)
    · exact .inr (isB_iff.2 ⟨by omega, by omega, by simp [h], rightB_iff.1 hb⟩)
theorem right_kdP {f : Flr} (r : RightP f) {i : Nat} (hi : i < f.s.size) : kdS f.s i = 1 ∨ kdS f.s i = 2 ∨ kdS f.s i = 3 := by
  have h1 := r.kinds i hi
  have h2 : kdS f.s i ≤ 3 := kindB_le _
  omega
end Go.Proofs.YtmipnicdlldjnaaGreatDoor

namespace Go.Proofs.YtmipnicdlldjnaaGreatDoor
set_option linter.unusedVariables false
set_option linter.unusedSimpArgs false
open Go.Shelf Go.RowKit Go.Lib
variable {P : Program} {ρ : Ren}

set_option maxHeartbeats 1000000 in
theorem split_one (L : Lays.n146 P ρ) (hi9 : (P.info? (ρ.t 9)).map (fun i => (i.zero, i.size, i.bytes)) = some (some (.string ByteArray.empty), 1, 16)) (s : ByteArray) (c : UInt8) (w : World)
    (hs : s.size < 4294967281) :
    Calls P (ρ.f 146) #[.string s, .string ⟨#[c]⟩] w fun e w' =>
      e = .returned (.slice (some ⟨w.heap.size, 0, none⟩) (Lib.countB s ⟨#[c]⟩ + 1) (Lib.countB s ⟨#[c]⟩ + 1)) ∧ w' = w.alloc (.cells ((Lib.splitB ⟨#[c]⟩ 0 (Lib.countB s ⟨#[c]⟩) s).map Value.string).toArray (ρ.t 9)) := by
  have h1 : 1 ≤ (ByteArray.mk #[c]).size := Nat.le_refl _
  have hle := Lib.countB_le ⟨#[c]⟩ h1 s.size s (Nat.le_refl _)
  have hlen := Lib.splitB_all ⟨#[c]⟩ h1 0 _ s rfl
  have c1 := Any.strings_genSplit_core (ρ := ρ) { L with } hi9 s ⟨#[c]⟩ 0 (-1) (Lib.countB s ⟨#[c]⟩ + 1) w hs h1 (Nat.zero_le _)
    (fun x cs hx => (Any.strings_Index_one { L with } x c _).mono fun e w' ⟨he, hw⟩ => ⟨by rw [he]; show _ = Ending.returned (Value.int .i64 (Lib.index x.data.toList [c])); rw [Lib.index_one], hw⟩)
    ((Any.strings_Count_one { L with } s c w).mono fun e w' ⟨he, hw⟩ => ⟨by
      rw [he]
      show _ = Ending.returned (Value.int .i64 ((Lib.count s.data.toList [c] : Nat) : Int))
      rw [Lib.count_one]; rfl, hw⟩)
    (by decide) (by decide) (by rw [if_pos (by decide)]; omega)
  rw [Nat.add_sub_cancel, hlen] at c1
  have e2 : Lib.cellsOf (Lib.splitB ⟨#[c]⟩ 0 (Lib.countB s ⟨#[c]⟩) s) (Lib.countB s ⟨#[c]⟩ + 1) = ((Lib.splitB ⟨#[c]⟩ 0 (Lib.countB s ⟨#[c]⟩) s).map Value.string).toArray := by rw [← hlen]; exact Lib.cellsOf_full _
  rw [e2] at c1
  have t3 := L.t3; have t9 := L.t9; have t31 := L.t31
  have a3 := L.a3; have a9 := L.a9; have a31 := L.a31
  have z3 := L.z3; have v3 := L.v3; have z9 := L.z9; have v9 := L.v9; have z31 := L.z31; have v31 := L.v31
  have e221 : ∀ args w, (callFunc (ρ.f 221) args).run P w = .ok (.enter (ρ.f 221) args) w := enters_of L.f221 (by kernel_rfl) rfl
  go_enter L.f146, Body.n146_ntmps ρ
  go_wp2_with (go_at_fn (ρ.f 221); refine c1.mono ?_; rintro e w' ⟨rfl, hw⟩; rw [hw])
  go_ret
  exact ⟨rfl, rfl⟩
end Go.Proofs.YtmipnicdlldjnaaGreatDoor

namespace Go.Proofs
open Go.Shelf
def Tryz.lays156_ren : Go.Shelf.Ren := ⟨fun | 156 => 32 | 165 => 52 | 166 => 53 | 169 => 54 | 240 => 81 | 241 => 82 | 276 => 98 | 277 => 99 | n => n, fun | 31 => 63 | 9 => 9 | 3 => 3 | 4 => 4 | 0 => 0 | 20 => 20 | 72 => 89 | 76 => 93 | 70 => 86 | 37 => 87 | 75 => 92 | 127 => 126 | 164 => 148 | 5 => 5 | 80 => 95 | n => n, fun | n => n⟩
theorem Tryz.lays156 : Go.Proofs.Lays.n156 Tryz.prog Tryz.lays156_ren := {
  mixed := by kernel_rfl
  f156 := Tryz.func32.trans (congrArg some (by kernel_rfl))
  f165 := Tryz.func52.trans (congrArg some (by kernel_rfl))
  f166 := Tryz.func53.trans (congrArg some (by kernel_rfl))
  f169 := Tryz.func54.trans (congrArg some (by kernel_rfl))
  f240 := Tryz.func81.trans (congrArg some (by kernel_rfl))
  f241 := Tryz.func82.trans (congrArg some (by kernel_rfl))
  f276 := Tryz.func98.trans (congrArg some (by kernel_rfl))
  f277 := Tryz.func99.trans (congrArg some (by kernel_rfl))
  t0 := Tryz.underlying0
  a0 := Tryz.isAgg0
  z0 := Tryz.sizeOf0
  v0 := Tryz.zeroValue0
  t3 := Tryz.underlying3
  a3 := Tryz.isAgg3
  z3 := Tryz.sizeOf3
  v3 := Tryz.zeroValue3
  t4 := Tryz.underlying4
  a4 := Tryz.isAgg4
  z4 := Tryz.sizeOf4
  v4 := Tryz.zeroValue4
  t9 := Tryz.underlying9
  a9 := Tryz.isAgg9
  z9 := Tryz.sizeOf9
  v9 := Tryz.zeroValue9
  t20 := Tryz.underlying20
  a20 := Tryz.isAgg20
  z20 := Tryz.sizeOf20
  v20 := Tryz.zeroValue20
  t31 := Tryz.underlying63
  a31 := Tryz.isAgg63
  z31 := Tryz.sizeOf63
  v31 := Tryz.zeroValue63
  t37 := Tryz.underlying87
  a37 := Tryz.isAgg87
  z37 := Tryz.sizeOf87
  v37 := Tryz.zeroValue87
  t70 := Tryz.underlying86
  a70 := Tryz.isAgg86
  z70 := Tryz.sizeOf86
  v70 := Tryz.zeroValue86
  t72 := Tryz.underlying89
  a72 := Tryz.isAgg89
  z72 := Tryz.sizeOf89
  v72 := Tryz.zeroValue89
  t75 := Tryz.underlying92
  a75 := Tryz.isAgg92
  z75 := Tryz.sizeOf92
  v75 := Tryz.zeroValue92
  t76 := Tryz.underlying93
  a76 := Tryz.isAgg93
  z76 := Tryz.sizeOf93
  v76 := Tryz.zeroValue93
  t127 := Tryz.underlying126
  a127 := Tryz.isAgg126
  z127 := Tryz.sizeOf126
  v127 := Tryz.zeroValue126
  t164 := Tryz.underlying148
  a164 := Tryz.isAgg148
  z164 := Tryz.sizeOf148
  v164 := Tryz.zeroValue148 }
theorem Tryz.Builder_Extra_156 : Builder.Extra Tryz.prog Tryz.lays156_ren := {
  sizeBuilder := by kernel_rfl
  liesBuilder := by kernel_rfl
  t5 := Tryz.underlying5
  a5 := Tryz.isAgg5
  z5 := Tryz.sizeOf5
  v5 := Tryz.zeroValue5
  infoByte := by kernel_rfl
  cellsByte := by kernel_rfl
  sizeByte := by kernel_rfl
  neB5 := by decide }
open Go.RowKit in
theorem Tryz.strings_Join (bk o c : Nat) (xs : List ByteArray) (sep : ByteArray) (w : World) (hcells : ∀ (j : Nat) x, xs[j]? = some x → w.cell? ⟨bk, o + j, none⟩ = some (.string x)) (hbk : bk < w.heap.size) (hN : xs.length ≤ 140737488355328) (hcap : xs.length ≤ c) (hlen : (Lib.join (xs.map (·.data.toList)) sep.data.toList).length ≤ 140737488355328) :
    Calls Tryz.prog 32 #[.slice (some ⟨bk, o, none⟩) xs.length c, .string sep] w fun e w' => e = .returned (.string ⟨(Lib.join (xs.map (·.data.toList)) sep.data.toList).toArray⟩) ∧ Below w.heap.size w w' := Any.strings_Join Tryz.lays156 Tryz.Builder_Extra_156 bk o c xs sep w hcells hbk hN hcap hlen
def Tryz.lays146_ren : Go.Shelf.Ren := ⟨fun | 146 => 30 | 221 => 50 | 268 => 78 | 138 => 79 | 143 => 80 | 195 => 94 | 197 => 95 | 218 => 96 | 219 => 97 | 260 => 105 | 217 => 106 | 225 => 107 | 224 => 108 | 267 => 109 | 266 => 110 | 314 => 111 | n => n, fun | 9 => 9 | 31 => 63 | 3 => 3 | 4 => 4 | 0 => 0 | 105 => 145 | 21 => 21 | 5 => 5 | 46 => 83 | 119 => 162 | 139 => 165 | 138 => 164 | 146 => 151 | 51 => 121 | n => n, fun | 1 => 0 | 3 => 1 | 4 => 2 | n => n⟩
theorem Tryz.lays146 : Go.Proofs.Lays.n146 Tryz.prog Tryz.lays146_ren := {
  mixed := by kernel_rfl
  f138 := Tryz.func79.trans (congrArg some (by kernel_rfl))
  f143 := Tryz.func80.trans (congrArg some (by kernel_rfl))
  f146 := Tryz.func30.trans (congrArg some (by kernel_rfl))
  f195 := Tryz.func94.trans (congrArg some (by kernel_rfl))
  f197 := Tryz.func95.trans (congrArg some (by kernel_rfl))
  f217 := Tryz.func106.trans (congrArg some (by kernel_rfl))
  f218 := Tryz.func96.trans (congrArg some (by kernel_rfl))
  f219 := Tryz.func97.trans (congrArg some (by kernel_rfl))
  f221 := Tryz.func50.trans (congrArg some (by kernel_rfl))
  f224 := Tryz.func108.trans (congrArg some (by kernel_rfl))
  f225 := Tryz.func107.trans (congrArg some (by kernel_rfl))
  f260 := Tryz.func105.trans (congrArg some (by kernel_rfl))
  f266 := Tryz.func110.trans (congrArg some (by kernel_rfl))
  f267 := Tryz.func109.trans (congrArg some (by kernel_rfl))
  f268 := Tryz.func78.trans (congrArg some (by kernel_rfl))
  f314 := Tryz.func111.trans (congrArg some (by kernel_rfl))
  t0 := Tryz.underlying0
  a0 := Tryz.isAgg0
  z0 := Tryz.sizeOf0
  v0 := Tryz.zeroValue0
  t3 := Tryz.underlying3
  a3 := Tryz.isAgg3
  z3 := Tryz.sizeOf3
  v3 := Tryz.zeroValue3
  t4 := Tryz.underlying4
  a4 := Tryz.isAgg4
  z4 := Tryz.sizeOf4
  v4 := Tryz.zeroValue4
  t5 := Tryz.underlying5
  a5 := Tryz.isAgg5
  z5 := Tryz.sizeOf5
  v5 := Tryz.zeroValue5
  t9 := Tryz.underlying9
  a9 := Tryz.isAgg9
  z9 := Tryz.sizeOf9
  v9 := Tryz.zeroValue9
  t21 := Tryz.underlying21
  a21 := Tryz.isAgg21
  z21 := Tryz.sizeOf21
  v21 := Tryz.zeroValue21
  t31 := Tryz.underlying63
  a31 := Tryz.isAgg63
  z31 := Tryz.sizeOf63
  v31 := Tryz.zeroValue63
  t46 := Tryz.underlying83
  a46 := Tryz.isAgg83
  z46 := Tryz.sizeOf83
  v46 := Tryz.zeroValue83
  t51 := Tryz.underlying121
  a51 := Tryz.isAgg121
  z51 := Tryz.sizeOf121
  v51 := Tryz.zeroValue121
  t105 := Tryz.underlying145
  a105 := Tryz.isAgg145
  z105 := Tryz.sizeOf145
  v105 := Tryz.zeroValue145
  t119 := Tryz.underlying162
  a119 := Tryz.isAgg162
  z119 := Tryz.sizeOf162
  t138 := Tryz.underlying164
  a138 := Tryz.isAgg164
  z138 := Tryz.sizeOf164
  v138 := Tryz.zeroValue164
  t139 := Tryz.underlying165
  a139 := Tryz.isAgg165
  z139 := Tryz.sizeOf165
  v139 := Tryz.zeroValue165
  t146 := Tryz.underlying151
  a146 := Tryz.isAgg151
  z146 := Tryz.sizeOf151
  v146 := Tryz.zeroValue151
  g1 := by kernel_rfl
  g3 := by kernel_rfl
  g4 := by kernel_rfl }
end Go.Proofs

namespace Go.Proofs.YtmipnicdlldjnaaGreatDoor
set_option linter.unusedVariables false
set_option linter.unusedSimpArgs false
open Go.RowKit

/-- A string's cell. -/
def SRK : Kd ByteArray := { sz := 1, enc := fun x => [.string x], len := fun _ => rfl, one := by intro a v hv; simp at hv; subst hv; rfl, pos := by decide }
def rowsV (R : List ByteArray) : Array Value := (R.map Value.string).toArray
theorem splitS_any (s : ByteArray) (hs : s.size ≤ 4000000000) (w : World) :
    Calls Tryz.prog 30 #[.string s, .string ⟨#[10]⟩] w fun e w' =>
      e = .returned (.slice (some ⟨w.heap.size, 0, none⟩) (pcs s.data.toList).length (pcs s.data.toList).length) ∧ w' = w.alloc (.cells (rowsV ((pcs s.data.toList).map mkB)) 9) := by
  have h := split_one Tryz.lays146 (by kernel_rfl) s 10 w (by omega)
  have hl := Lib.splitB_all ⟨#[10]⟩ (Nat.le_refl _) 0 _ s rfl
  rw [split_rows s _ rfl] at h hl
  rw [List.length_map] at hl
  rw [← hl] at h
  exact h
theorem pcs_lenle (l : List UInt8) : (pcs l).length ≤ l.length + 1 := by
  induction l with
  | nil => simp [pcs]
  | cons c l ih =>
    rw [pcs]
    split
    · simp; exact ih
    · split
      · simp
      · rename_i h; rw [h] at ih; simp at ih ⊢; omega

set_option maxRecDepth 100000 in
theorem may_any (row first : ByteArray) (y : Nat) (hr : row.size ≤ 9223372036854775807) (hf : first.size ≤ 9223372036854775807) (hy : y ≤ 1000000000) (w : World) :
    Calls Tryz.prog 31 #[.string row, .string first, .int .i64 (y : Int)] w fun e w' => e = .returned (.bool (mayB row first y)) ∧ w' = w := by
  obtain ⟨R, hR⟩ : ∃ R, R = mayB row first y := ⟨_, rfl⟩
  rw [← hR]
  have HR := Lib.hid hR
  clear hR
  obtain ⟨n, hn⟩ : ∃ n, n = row.size := ⟨_, rfl⟩
  have hnI : ((row.size : Nat) : Int) = (n : Int) := by omega
  have HN := Lib.hid hn
  obtain ⟨m, hm⟩ : ∃ m, m = first.size := ⟨_, rfl⟩
  have hmI : ((first.size : Nat) : Int) = (m : Int) := by omega
  have HM := Lib.hid hm
  have hno : ¬ (y < 16 ∧ n ≠ 0 ∧ n ≤ 16 ∧ n = m) → R = false := fun h => by
    rw [HR.out]
    cases e : mayB row first y with
    | false => rfl
    | true => obtain ⟨h1, h2, h3, h4, _⟩ := mayB_iff.1 e; exact absurd ⟨h1, by rw [hn]; exact h2, by rw [hn]; exact h3, by rw [hn, hm]; exact h4⟩ h
  have HNO := Lib.hid hno
  rw [← hn] at hr
  rw [← hm] at hf
  clear hno hn hm
  have hem : row.toList.isEmpty = decide (n = 0) := by
    rw [HN.out, Lib.toList_data, Lib.size_eq]
    cases row.data.toList <;> simp
  by_cases h1 : 16 ≤ y
  · have h1I : (16 : Int) ≤ (y : Int) := by omega
    have HE := Lib.hid (HNO.out (by omega))
    clear hem h1
    go_enter Tryz.func31, Tryz.ntmps31
    go_wp2_with fail
    go_ret
    exact ⟨by rw [HE.out]; rfl, rfl⟩
  have h1I : ¬ (16 : Int) ≤ (y : Int) := by omega
  by_cases h2 : n = 0
  · have HE := Lib.hid (HNO.out (by omega))
    have hem2 : row.toList.isEmpty = true := by rw [hem]; simp [h2]
    have hem3 : row.toList = [] := by simpa using hem2
    have hem4 : row.data.toList = [] := by rw [← Lib.toList_data]; exact hem3
    clear hem h1 h2
    go_enter Tryz.func31, Tryz.ntmps31
    go_wp2_with fail
    go_ret
    exact ⟨by rw [HE.out]; rfl, rfl⟩
  have hem2 : row.toList.isEmpty = false := by rw [hem]; simp [h2]
  by_cases h3 : 16 < n
  · have HE := Lib.hid (HNO.out (by omega))
    have h3I : (16 : Int) < (n : Int) := by omega
    clear hem h1 h2 h3
    go_enter Tryz.func31, Tryz.ntmps31
    go_wp2_with fail
    go_ret
    exact ⟨by rw [HE.out]; rfl, rfl⟩
  have h3I : ¬ (16 : Int) < (n : Int) := by omega
  by_cases h4 : n = m
  · have h4b : ((n : Int) != (m : Int)) = false := by simp; omega
    have h4c : (n != m) = false := by simp [h4]
    have HG := Lib.hid (show y < 16 ∧ n ≠ 0 ∧ n ≤ 16 ∧ n = m by omega)
    have hn16 : n ≤ 16 := by omega
    clear hem h1 h2 h3 h4
    go_enter Tryz.func31, Tryz.ntmps31
    go_wp2_with fail
    go_loopg [28] (n + 1) (fun g2 kk wr => ∃ k : Nat, g2 = n + 1 - k ∧ kk = .int .i64 k ∧ k ≤ n ∧ (∀ i, i < k → kdS row i ≠ 0) ∧ wr = w)
    case atStart => exact ⟨0, rfl, rfl, by omega, fun i hi => by omega, rfl⟩
    case round =>
      obtain ⟨k, hgk, rfl, hk, hz, rfl⟩ := hrel
      have HZ := Lib.hid hz
      clear hz
      by_cases hlt : k < n
      · have hltI : (k : Int) < (n : Int) := by omega
        have hwk : IntKind.i64.wrap ((k : Int) + 1) = (k : Int) + 1 := IntWalk.i64_in _ (by omega)
        have hks : k < row.size := by have := HN.out; omega
        have hbt := bt_at row k
        obtain ⟨K, hK⟩ : ∃ K, K = kindB (bt row k) := ⟨_, rfl⟩
        have hkd := fun w => kind_any (bt row k) w
        rw [← hK] at hkd
        have HK := Lib.hid (show K = kdS row k from hK)
        have HKD := Lib.hid hkd
        clear hK hkd
        by_cases h0 : K = 0
        · have h0b : ((K : Int) == 0) = true := by simp [h0]
          have HE := Lib.hid (show R = false by
            rw [HR.out]
            cases e : mayB row first y with
            | false => rfl
            | true => exact absurd (by rw [← HK.out, h0]) ((mayB_iff.1 e).2.2.2.2 k hks))
          clear h0 hlt hks
          go_wp2_with (go_at_call 51; refine (HKD.out _).mono ?_; rintro e wz ⟨rfl, rfl⟩)
          go_ret
          exact ⟨by rw [HE.out]; rfl, rfl⟩
        · have h0b : ((K : Int) == 0) = false := by simp; omega
          have HZ2 := Lib.hid (show ∀ i, i < k + 1 → kdS row i ≠ 0 by
            intro i hi
            rcases Nat.lt_or_ge i k with h | h
            · exact HZ.out i h
            · obtain rfl : i = k := by omega
              rw [← HK.out]; exact h0)
          clear h0 hlt hks
          go_wp2_with (go_at_call 51; refine (HKD.out _).mono ?_; rintro e wz ⟨rfl, hwz⟩; rw [hwz]; clear hwz)
          go_roundg (n + 1 - (k + 1))
          case measure => omega
          case rel => exact ⟨k + 1, rfl, by go_num, by omega, HZ2.out, rfl⟩
      · obtain rfl : k = n := by omega
        have hd0 : ¬ (k : Int) < (k : Int) := by omega
        have HE := Lib.hid (show R = true by
          rw [HR.out]
          have h1 := HG.out; have h2 := HN.out; have h3 := HM.out
          exact mayB_iff.2 ⟨h1.1, by omega, by omega, by omega, fun i hi => HZ.out i (by omega)⟩)
        clear hlt
        go_wp2_with fail
        go_ret
        exact ⟨by rw [HE.out]; rfl, rfl⟩
  · have HE := Lib.hid (HNO.out (by omega))
    have h4b : ((n : Int) != (m : Int)) = true := by simp; omega
    have h4c : (n != m) = true := by simp [h4]
    clear hem h1 h2 h3 h4
    go_enter Tryz.func31, Tryz.ntmps31
    go_wp2_with fail
    go_ret
    exact ⟨by rw [HE.out]; rfl, rfl⟩
end Go.Proofs.YtmipnicdlldjnaaGreatDoor

namespace Go.Proofs.YtmipnicdlldjnaaGreatDoor
set_option linter.unusedVariables false
set_option linter.unusedSimpArgs false
open Go.RowKit

theorem elSR : ElT Tryz.prog 63 9 SRK 16 := ElT.of (z := .string ByteArray.empty) (by kernel_rfl) (by kernel_rfl) rfl
theorem pcs_flat (l : List UInt8) : (pcs l).flatten.length ≤ l.length := by
  induction l with
  | nil => simp [pcs]
  | cons c l ih =>
    rw [pcs]
    split
    · simp; simp at ih; omega
    · split
      · simp
      · rename_i h; rw [h] at ih; simp at ih ⊢; omega
theorem flat_mem {L : List (List UInt8)} {p : List UInt8} (h : p ∈ L) : p.length ≤ L.flatten.length := by
  induction L with
  | nil => simp at h
  | cons a L ih =>
    rw [List.flatten_cons, List.length_append]
    rcases List.mem_cons.1 h with rfl | h
    · omega
    · have := ih h; omega
theorem join_nil (xs : List (List UInt8)) : Lib.join xs [] = xs.flatten := by
  unfold Lib.join
  induction xs with
  | nil => rfl
  | cons a xs ih =>
    rcases xs with _ | ⟨b, xs⟩
    · simp [List.intercalate]
    · rw [List.flatten_cons, ← ih]; simp [List.intercalate]
/-- The rows of a text: what the program reads, the first m of n1 pieces. -/
structure PrR (s : ByteArray) (R X : List ByteArray) (m n1 : Nat) : Prop where
  rows : X = rowsB s
  pre : ∃ Y, R = X ++ Y
  lm : m = X.length
  ln : n1 = R.length
  le : m ≤ n1
  n1le : n1 ≤ s.size + 1
  sz : ∀ (i : Nat) r, X[i]? = some r → r.size ≤ s.size
  flat : (X.map (·.data.toList)).flatten.length ≤ s.size
theorem prR (s : ByteArray) : ∃ L cur, pcs s.data.toList = L ++ [cur] ∧ ∃ X m, PrR s ((pcs s.data.toList).map mkB) X m (L.length + 1) ∧ m = if cur = [] then L.length else L.length + 1 := by
  obtain ⟨L, cur, h⟩ : ∃ L cur, pcs s.data.toList = L ++ [cur] := by
    exact ⟨_, _, (List.dropLast_concat_getLast (pcs_ne _)).symm⟩
  have hr := rowsL_of h
  have hf := pcs_flat s.data.toList
  have hn := pcs_lenle s.data.toList
  rw [← Lib.size_eq] at hf hn
  rw [h] at hf hn
  have key : ∀ (Z W2 : List (List UInt8)), L ++ [cur] = Z ++ W2 → rowsL s.data.toList = Z → PrR s ((L ++ [cur]).map mkB) (Z.map mkB) Z.length (L.length + 1) := by
    intro Z W2 h1 h2
    have hzf : Z.flatten.length ≤ s.size := by rw [h1] at hf; simp only [List.flatten_append, List.length_append] at hf; omega
    have hlen : L.length + 1 = Z.length + W2.length := by have := congrArg List.length h1; simpa using this
    refine ⟨by unfold rowsB; rw [h2], ⟨W2.map mkB, by rw [h1, List.map_append]⟩, by simp, by simp, by omega, by simp at hn; omega, fun i r hi => ?_, ?_⟩
    · rw [List.getElem?_map] at hi
      cases hz : Z[i]? with
      | none => rw [hz] at hi; simp at hi
      | some p =>
        rw [hz] at hi; simp at hi; subst hi
        rw [mkB_size]
        exact Nat.le_trans (flat_mem (List.mem_of_getElem? hz)) hzf
    · rw [List.map_map]
      have : ((fun x : ByteArray => x.data.toList) ∘ mkB) = id := by funext x; exact mkB_list x
      rw [this, List.map_id]; exact hzf
  refine ⟨L, cur, h, ?_⟩
  rw [h]
  by_cases hc : cur = []
  · rw [if_pos hc] at hr
    exact ⟨_, _, key L [cur] rfl hr, by rw [if_pos hc]⟩
  · rw [if_neg hc] at hr
    exact ⟨_, _, key (L ++ [cur]) [] (by simp) hr, by rw [if_neg hc]; simp⟩
theorem box_set {w : World} {b i : Nat} {cs : Array Value} {t : TypeId} (h : w.heap[b]? = some (.cells cs t (0, 0))) (hi : i < cs.size) (v : Value) : (w.setCell ⟨b, i, none⟩ v).cell? ⟨b, i, none⟩ = some v := by
  rw [blk_cell (blk_set h i v)]; simp [hi]
def ParseR (s : ByteArray) (w : World) (e : Ending) (w' : World) : Prop := e = .returned (PVal (parseP s)) ∧ Kp No w w'

set_option maxHeartbeats 2000000 in
set_option maxRecDepth 100000 in
theorem parse_any (s : ByteArray) (hs : s.size ≤ 1000000) (w : World) : Calls Tryz.prog 17 #[.string s] w (ParseR s w) := by
  unfold ParseR
  obtain ⟨V, hV⟩ : ∃ V, V = PVal (parseP s) := ⟨_, rfl⟩
  rw [← hV]
  have HV := Lib.hid hV
  clear hV
  obtain ⟨L, cur, hpc, X, m, pr, hm⟩ := prR s
  have SP := Lib.hid (splitS_any s (by omega))
  rw [hpc, List.length_append, List.length_singleton] at SP
  rw [hpc] at pr
  obtain ⟨R, hR⟩ : ∃ R, R = (L ++ [cur]).map mkB := ⟨_, rfl⟩
  rw [← hR] at SP pr
  have hRl : R[L.length]? = some (mkB cur) := by rw [hR]; simp
  obtain ⟨n1, hn1⟩ : ∃ n1, n1 = L.length + 1 := ⟨_, rfl⟩
  obtain ⟨n0, hn0⟩ : ∃ n0, n0 = L.length := ⟨_, rfl⟩
  rw [← hn1] at SP pr
  rw [← hn0] at hm hRl
  have h01 : n1 = n0 + 1 := by omega
  rw [← h01] at hm
  have hn1s : n1 ≤ 1000001 := by have := pr.n1le; omega
  have PR := Lib.hid pr
  have hle := pr.le
  obtain ⟨bF, hbF⟩ : ∃ bF, bF = w.heap.size := ⟨_, rfl⟩
  obtain ⟨br, hbr⟩ : ∃ br, br = w.heap.size + 1 := ⟨_, rfl⟩
  obtain ⟨w1, hw1⟩ : ∃ w1, w1 = w.alloc (.cells #[.int .i64 0, .int .i64 0, .string ⟨#[]⟩] 23) := ⟨_, rfl⟩
  obtain ⟨w2, hw2⟩ : ∃ w2, w2 = w1.alloc (.cells (rowsV R) 9) := ⟨_, rfl⟩
  have K2 := Lib.hid (show Kp No w w2 by rw [hw2, hw1]; exact ((Kp.refl _ _).alloc _).alloc _)
  have BF := Lib.hid (show w2.heap[bF]? = some (.cells #[.int .i64 0, .int .i64 0, .string ⟨#[]⟩] 23 (0, 0)) by rw [hw2, hw1, hbF]; exact blk_alloc (blk_new w _) _)
  have BR := Lib.hid (show w2.heap[br]? = some (.cells (rowsV R) 9 (0, 0)) by
    rw [hw2]
    have := blk_new w1 (.cells (rowsV R) 9)
    rw [hw1] at this ⊢
    rw [hbr]; simpa using this)
  have HLT := Lib.hid (show w.heap.size ≤ bF ∧ bF < br by omega)
  have hcR : ∀ (i : Nat) r, R[i]? = some r → w2.cell? ⟨br, i, none⟩ = some (.string r) := fun i r h => (blk_cell BR.out i).trans (by simp [rowsV, h])
  have HCR := Lib.hid hcR
  have HCX := Lib.hid (show ∀ (i : Nat) r, X[i]? = some r → w2.cell? ⟨br, i, none⟩ = some (.string r) from fun i r h => hcR i r (by
    obtain ⟨Y, hY⟩ := PR.out.pre
    rw [hY, List.getElem?_append_left (List.getElem?_eq_some_iff.1 h).1]; exact h))
  have hlast := hcR n0 _ hRl
  have hsub : IntKind.i64.wrap ((n1 : Int) - 1) = (n0 : Int) := by rw [IntWalk.i64_in _ (by omega)]; omega
  have hsub2 : (n1 : Int) - 1 = (n0 : Int) := by omega
  have hn01 : (n0 : Int) < (n1 : Int) := by omega
  have HC1 := Lib.hid (show w1.heap.size = br by rw [hw1, hbr]; simp)
  have hsl := fun w => run_slice_hi elSR br 0 n1 n1 n0 (by omega) (n0 : Int) rfl w
  have SPw := SP.out w1
  rw [HC1.out, ← hw2] at SPw
  have HSPw := Lib.hid SPw
  have hmn : m ≤ 1000001 := by omega
  have HW1 := Lib.hid hw1
  obtain ⟨em, hem⟩ : ∃ em, (mkB cur).toList.isEmpty = em := ⟨_, rfl⟩
  have HMN := Lib.hid (show m = if em = true then n0 else n1 by
    rw [hm, ← hem, Lib.toList_data, mkB_list]
    cases cur <;> simp)
  subst hbF
  clear hcR hRl hR hn1 hn0 hpc pr SP SPw hm hbr hw1 hw2 h01
  go_enter Tryz.func17, Tryz.ntmps17
  go_upto_if 17 with (go_at_call 30; go_loud (rw [← HW1.out]; refine HSPw.out.mono ?_; rintro e wz ⟨rfl, hwz⟩; rw [hwz]; clear hwz))
  go_cut [5, 11, 12, 13, 14, 15, 16, 17, 18, 19, 20, 21, 22] (fun v _ _ _ _ _ _ _ _ _ _ _ _ wx => v = .slice (some ⟨br, 0, none⟩) m n1 ∧ wx = w2)
  case first =>
    cases em with
    | true =>
      have HMM := Lib.hid (show m = n0 from HMN.out)
      go_wp2_with fail
      go_meet
      exact ⟨by rw [HMM.out], rfl⟩
    | false =>
      have HMM := Lib.hid (show m = n1 from HMN.out)
      go_wp2_with fail
      go_meet
      exact ⟨by rw [HMM.out], rfl⟩
  case rest =>
    obtain ⟨rfl, hcw⟩ := hcut
    rw [hcw]
    clear hcw
    clear hsl hlast hsub hsub2 hn01 hem
    go_wp2_with fail
    have hf0 : w2.frozen? ⟨w.heap.size, 0, none⟩ = false := blk_free BF.out 0
    have hf1 : w2.frozen? ⟨w.heap.size, 1, none⟩ = false := blk_free BF.out 1
    have hf2 : w2.frozen? ⟨w.heap.size, 2, none⟩ = false := blk_free BF.out 2
    have hs0 := fun v => box_set (i := 0) BF.out (by decide) v
    have hs1 := fun v0 v => box_set (i := 1) (blk_set BF.out 0 v0) (by simp) v
    have hs2 := fun v0 v1 v => box_set (i := 2) (blk_set (blk_set BF.out 0 v0) 1 v1) (by simp) v
    have hg0 : w2.cell? ⟨w.heap.size, 0, none⟩ = some (.int .i64 0) := blk_cell BF.out 0
    have hg1 : w2.cell? ⟨w.heap.size, 1, none⟩ = some (.int .i64 0) := blk_cell BF.out 1
    have hg2 : w2.cell? ⟨w.heap.size, 2, none⟩ = some (.string ⟨#[]⟩) := blk_cell BF.out 2
    go_loopg [25] (m + 1) (fun g2 kk wr => ∃ k : Nat, g2 = m + 1 - k ∧ kk = .int .i64 k ∧ k ≤ m ∧ (∀ (i : Nat) r f, i < k → X[i]? = some r → X[0]? = some f → mayB r f i = true) ∧ wr = w2)
    case atStart => exact ⟨0, rfl, rfl, by omega, fun i r f hi => by omega, rfl⟩
    case round =>
      obtain ⟨k, hgk, rfl, hk, hz, rfl⟩ := hrel
      have HZ := Lib.hid hz
      clear hz
      by_cases hlt : k < m
      · have hltI : (k : Int) < (m : Int) := by omega
        have hwk : IntKind.i64.wrap ((k : Int) + 1) = (k : Int) + 1 := IntWalk.i64_in _ (by omega)
        obtain ⟨r, hr⟩ : ∃ r, X[k]? = some r := ⟨_, List.getElem?_eq_getElem (by rw [← PR.out.lm]; exact hlt)⟩
        obtain ⟨f, hf⟩ : ∃ f, X[0]? = some f := ⟨_, List.getElem?_eq_getElem (by rw [← PR.out.lm]; omega)⟩
        have hcr := HCX.out k r hr
        have hcf := HCX.out 0 f hf
        have hm0 : (0 : Nat) < m := by omega
        obtain ⟨b, hb⟩ : ∃ b, mayB r f k = b := ⟨_, rfl⟩
        have hmy := may_any r f k (by have := PR.out.sz k r hr; omega) (by have := PR.out.sz 0 f hf; omega) (by omega) wr
        rw [hb] at hmy
        have HMY := Lib.hid hmy
        have HB := Lib.hid hb; have HRR := Lib.hid hr; have HFF := Lib.hid hf
        clear hmy hb hr hf hlt
        cases b with
        | false =>
          have HE := Lib.hid (show V = .tuple #[.agg #[.int .i64 0, .int .i64 0, .string ⟨#[]⟩], .int .i64 (k : Int), .int .i64 30] by
            rw [HV.out]
            have hb := badRow_some HRR.out HFF.out HB.out (fun i r hi hr => HZ.out i r f hi hr HFF.out)
            unfold parseP
            rw [← PR.out.rows, hb]; rfl)
          have KE := Lib.hid (fun (v0 v1 v2 : Value) => show Kp No w (((wr.setCell ⟨w.heap.size, 0, none⟩ v0).setCell ⟨w.heap.size, 1, none⟩ v1).setCell ⟨w.heap.size, 2, none⟩ v2) from
            ((K2.out.setCell (fun e => by have e : w.heap.size < w.heap.size := e; have := HLT.out; omega) _).setCell (fun e => by have e : w.heap.size < w.heap.size := e; have := HLT.out; omega) _).setCell (fun e => by have e : w.heap.size < w.heap.size := e; have := HLT.out; omega) _)
          clear HZ
          go_wp2_with (go_at_call 31; refine HMY.out.mono ?_; rintro e wz ⟨rfl, hwz⟩; rw [hwz]; clear hwz)
          exact bodyPost_ret (v := .tuple #[.agg #[.int .i64 0, .int .i64 0, .string ⟨#[]⟩], .int .i64 (k : Int), .int .i64 30]) (by simp [results, Tryz.results17, go_sem, hs0, hs1, hs2]) rfl ⟨by rw [HE.out], KE.out _ _ _⟩
        | true =>
          have HZ2 := Lib.hid (show ∀ (i : Nat) r f, i < k + 1 → X[i]? = some r → X[0]? = some f → mayB r f i = true by
            intro i r' f' hi hr hf
            rcases Nat.lt_or_ge i k with h | h
            · exact HZ.out i r' f' h hr hf
            · obtain rfl : i = k := by omega
              have e1 := HRR.out; have e2 := HFF.out
              rw [hr] at e1; rw [hf] at e2
              cases e1; cases e2
              exact HB.out)
          clear HZ
          go_wp2_with (go_at_call 31; refine HMY.out.mono ?_; rintro e wz ⟨rfl, hwz⟩; rw [hwz]; clear hwz)
          go_roundg (m + 1 - (k + 1))
          case measure => omega
          case rel => exact ⟨k + 1, rfl, by go_num, by omega, HZ2.out, rfl⟩
      · obtain rfl : k = m := by omega
        have hd0 : ¬ (k : Int) < (k : Int) := by omega
        have KE := Lib.hid (fun (w2 : World) (hk : Kp No w w2) (v0 v1 v2 : Value) => show Kp No w (((w2.setCell ⟨w.heap.size, 0, none⟩ v0).setCell ⟨w.heap.size, 1, none⟩ v1).setCell ⟨w.heap.size, 2, none⟩ v2) from
            ((hk.setCell (fun e => by have e : w.heap.size < w.heap.size := e; have := HLT.out; omega) _).setCell (fun e => by have e : w.heap.size < w.heap.size := e; have := HLT.out; omega) _).setCell (fun e => by have e : w.heap.size < w.heap.size := e; have := HLT.out; omega) _)
        clear hlt
        by_cases h0 : k = 0
        · have h0b : ((k : Int) == 0) = true := by simp [h0]
          have HE := Lib.hid (show V = .tuple #[.agg #[.int .i64 0, .int .i64 0, .string ⟨#[]⟩], .int .i64 0, .int .i64 30] by
            rw [HV.out]
            have hX : X = [] := List.eq_nil_of_length_eq_zero (by rw [← PR.out.lm]; exact h0)
            unfold parseP
            rw [← PR.out.rows, hX]
            show PVal (if rightB ⟨0, 0, joinB []⟩ = true then _ else _) = _
            rw [if_neg (by rw [rightB_f (fun r => by have := r.w1; simp at this)]; simp)]; rfl)
          clear h0
          go_wp2_with fail
          exact bodyPost_ret (v := .tuple #[.agg #[.int .i64 0, .int .i64 0, .string ⟨#[]⟩], .int .i64 0, .int .i64 30]) (by simp [results, Tryz.results17, go_sem, hs0, hs1, hs2]) rfl ⟨by rw [HE.out], KE.out _ K2.out _ _ _⟩
        · have h0b : ((k : Int) == 0) = false := by simp; omega
          obtain ⟨f, hf⟩ : ∃ f, X[0]? = some f := ⟨_, List.getElem?_eq_getElem (by rw [← PR.out.lm]; omega)⟩
          have hcf := HCX.out 0 f hf
          have hm0 : (0 : Nat) < k := by omega
          have hfs := PR.out.sz 0 f hf
          obtain ⟨q, hq⟩ : ∃ q, q = f.size := ⟨_, rfl⟩
          have hqI : ((f.size : Nat) : Int) = (q : Int) := by omega
          have HQ := Lib.hid hq
          have HN := Lib.hid (show badRow (rowsB s) = none by
            rw [← PR.out.rows]
            exact badRow_none hf (fun i r hi hr => HZ.out i r f (by rw [PR.out.lm]; exact hi) hr hf))
          obtain ⟨F, hF⟩ : ∃ F : Flr, F = ⟨(q : Int), (k : Int), joinB X⟩ := ⟨_, rfl⟩
          have HP := Lib.hid (show parseP s = if rightB F = true then (F, 0, 0) else (Flr.zero, k, 30) by
            unfold parseP
            rw [HN.out, hF, ← PR.out.rows, ← PR.out.lm]
            have : X.getD 0 ByteArray.empty = f := by simp [hf]
            rw [this, ← hq])
          have JN := Lib.hid (fun (wx : World) (hk : Kp No wr wx) => show Calls Tryz.prog 32 #[.slice (some ⟨br, 0, none⟩) k n1, .string ⟨#[]⟩] wx fun e w' => e = .returned (.string (joinB X)) ∧ Kp No wx w' ∧ Kp No wr w' from by
            have h := Tryz.strings_Join br 0 n1 X ⟨#[]⟩ wx (fun j x hx => by rw [Nat.zero_add]; exact hk.cellS (HCX.out j x hx) (no_no _)) (Nat.lt_of_lt_of_le (lt_of_block BR.out) hk.size) (by rw [← PR.out.lm]; omega) (by rw [← PR.out.lm]; omega) (by
              rw [show (ByteArray.mk #[]).data.toList = [] from rfl, join_nil]
              have := PR.out.flat; omega)
            rw [show (ByteArray.mk #[]).data.toList = [] from rfl, join_nil, ← PR.out.lm] at h
            exact h.mono fun e w' ⟨he, hb⟩ => ⟨he, Kp.ofBelow hb, hk.no (Kp.ofBelow hb)⟩)
          obtain ⟨S, hS⟩ : ∃ S, S = joinB X := ⟨_, rfl⟩
          rw [← hS] at JN hF
          have HF := Lib.hid hF
          have hSs : S.size ≤ 1000001 := by rw [hS]; unfold joinB; rw [mkB_size]; exact Nat.le_trans PR.out.flat (by omega)
          clear hf hq hfs h0 hF HN hS
          go_upto_region 12 with fail
          go_cut [8, 44, 45, 46, 47, 48, 49, 50, 51, 52] (fun t8 _ _ _ _ _ _ _ _ _ wx => ∃ b8, t8 = .pointer (some ⟨b8, 0, none⟩) ∧ wx.heap[b8]? = some (.cells #[.int .i64 (q : Int), .int .i64 (k : Int), .string S] 23 (0, 0)) ∧ Kp No wr wx ∧ b8 ≠ w.heap.size)
          case first =>
            have hcfa := fun o => ((Kp.refl No wr).alloc o).cellS hcf (no_no _)
            go_region_law (go_simp; go_at_call 32; refine (JN.out _ (by first | exact (Kp.refl _ _).drew | exact ((Kp.refl _ _).alloc _).drew | exact ((Kp.refl _ _).drew).alloc _)).mono ?_; rintro e w3 ⟨rfl, k3, k4⟩; have c3 := k4.cellS hcf (no_no _); have c3a := fun o => ((Kp.refl No w3).alloc o).cellS c3 (no_no _); have hz := k4.size; (first | (have z8 := k3.blk (g := wr.heap.size) (blk_new wr _) (no_no _); have y0 := blk_cell z8 0; have y1 := blk_cell z8 1; have y2 := blk_cell z8 2; have f0 := blk_free z8 0; have f1 := blk_free z8 1; have f2 := blk_free z8 2; have Z8 := Lib.hid z8; clear z8; simp at y0 y1 y2) | skip); have K3 := Lib.hid k3; have K4 := Lib.hid k4; clear k3 k4)
            all_goals
              have hbl := lt_of_block BF.out
              clear hcfa
              go_wp2_with fail
              go_meet
              first
              | exact ⟨_, rfl, blk_new w3 _, K4.out.alloc _, by omega⟩
              | exact ⟨_, rfl, by have := blk_set (blk_set (blk_set Z8.out 0 (.int .i64 (q : Int))) 1 (.int .i64 (k : Int))) 2 (.string S); simpa using this, ((K4.out.setCell (fun e => absurd e (Nat.lt_irrefl _)) _).setCell (fun e => absurd e (Nat.lt_irrefl _)) _).setCell (fun e => absurd e (Nat.lt_irrefl _)) _, by omega⟩
          case rest =>
            obtain ⟨b8, rfl, hbx, kx, hne⟩ := hcut
            have KX := Lib.hid kx
            have hx0 := blk_cell hbx 0
            have hx1 := blk_cell hbx 1
            have hx2 := blk_cell hbx 2
            simp at hx0 hx1 hx2
            have HBX := Lib.hid hbx; have HNE := Lib.hid hne
            clear kx hbx hne hf0 hf1 hf2 hg0 hg1 hg2 hs0 hs1 hs2 hcf
            obtain ⟨t, ht⟩ : ∃ t, rightB ⟨(q : Int), (k : Int), S⟩ = t := ⟨_, rfl⟩
            have HRT := Lib.hid (right_at ⟨(q : Int), (k : Int), S⟩ (by show S.size ≤ _; omega) t ht)
            have HT := Lib.hid ht
            clear ht
            go_wp2_with fail
            refine (HRT.out _).mono ?_
            rintro e w5 ⟨rfl, k5⟩
            have K5 := Lib.hid (K2.out.no (KX.out.no k5))
            have BF5 := Lib.hid ((KX.out.no k5).blk BF.out (no_no _))
            have hf0 : w5.frozen? ⟨w.heap.size, 0, none⟩ = false := blk_free BF5.out 0
            have hf1 : w5.frozen? ⟨w.heap.size, 1, none⟩ = false := blk_free BF5.out 1
            have hf2 : w5.frozen? ⟨w.heap.size, 2, none⟩ = false := blk_free BF5.out 2
            have hg0 : w5.cell? ⟨w.heap.size, 0, none⟩ = some (.int .i64 0) := blk_cell BF5.out 0
            have hg1 : w5.cell? ⟨w.heap.size, 1, none⟩ = some (.int .i64 0) := blk_cell BF5.out 1
            have hg2 : w5.cell? ⟨w.heap.size, 2, none⟩ = some (.string ⟨#[]⟩) := blk_cell BF5.out 2
            have hs0 := fun v => box_set (i := 0) BF5.out (by decide) v
            have hs1 := fun v0 v => box_set (i := 1) (blk_set BF5.out 0 v0) (by simp) v
            have hs2 := fun v0 v1 v => box_set (i := 2) (blk_set (blk_set BF5.out 0 v0) 1 v1) (by simp) v
            have hy := k5.blk HBX.out (no_no _)
            have hy0 := blk_cell hy 0
            have hy1 := blk_cell hy 1
            have hy2 := blk_cell hy 2
            simp at hy0 hy1 hy2
            clear hx0 hx1 hx2 k5 hy
            cases t with
            | true =>
              have HE := Lib.hid (show V = .tuple #[.agg #[.int .i64 (q : Int), .int .i64 (k : Int), .string S], .int .i64 0, .int .i64 0] by
                rw [HV.out, HP.out, HF.out, if_pos HT.out]; rfl)
              go_wp2_with fail
              exact bodyPost_ret (v := .tuple #[.agg #[.int .i64 (q : Int), .int .i64 (k : Int), .string S], .int .i64 0, .int .i64 0]) (by simp [results, Tryz.results17, go_sem, hs0, hs1, hs2]) rfl ⟨by rw [HE.out], KE.out _ K5.out _ _ _⟩
            | false =>
              have HE := Lib.hid (show V = .tuple #[.agg #[.int .i64 0, .int .i64 0, .string ⟨#[]⟩], .int .i64 (k : Int), .int .i64 30] by
                rw [HV.out, HP.out, HF.out, if_neg (by rw [HT.out]; simp)]; rfl)
              go_wp2_with fail
              exact bodyPost_ret (v := .tuple #[.agg #[.int .i64 0, .int .i64 0, .string ⟨#[]⟩], .int .i64 (k : Int), .int .i64 30]) (by simp [results, Tryz.results17, go_sem, hs0, hs1, hs2]) rfl ⟨by rw [HE.out], KE.out _ K5.out _ _ _⟩
end Go.Proofs.YtmipnicdlldjnaaGreatDoor

namespace Go.Proofs.YtmipnicdlldjnaaGreatDoor
set_option linter.unusedVariables false
set_option linter.unusedSimpArgs false
open Go.RowKit

theorem parse_at (s : ByteArray) (hs : s.size ≤ 1000000) (r : Flr × Nat × Nat) (hr : parseP s = r) (V : Value) (hV : PVal r = V) (w : World) : Calls Tryz.prog 17 #[.string s] w fun e w' => e = .returned V ∧ Kp No w w' := by
  subst hr hV; exact parse_any s hs w
theorem dock_at (f : Flr) (hs : f.s.size ≤ 1000000) (c : Int) (hc : c ≤ 1000000) (r : Option Nat) (hr : dockP f c = r) (V : Value) (hV : ZVal r = V) (w : World) : Calls Tryz.prog 18 #[f.val, .int .i64 c] w fun e w' => e = .returned V ∧ Kp No w w' := by
  subst hr hV; exact dock_any f (by omega) c (by omega) w
theorem zone_at (f : Flr) (hs : f.s.size ≤ 1000000) (c : Int) (hc : c ≤ 1000000) (r : Option Nat) (hr : zoneP f c = r) (V : Value) (hV : ZVal r = V) (w : World) : Calls Tryz.prog 19 #[f.val, .int .i64 c] w fun e w' => e = .returned V ∧ Kp No w w' := by
  subst hr hV; exact zone_any f (by omega) c (by omega) w
def RetI (L : List Nat) (w : World) (e : Ending) (w' : World) : Prop := ∃ A q, e = .returned (.slice A L.length q) ∧ NewS IK 3 w w' (.slice A L.length q) (ints L)
theorem RetI.of {L : List Nat} {w w' : World} {e : Ending} (h : ∃ v, e = .returned v ∧ NewS IK 3 w w' v (ints L)) : RetI L w e w' := by
  obtain ⟨v, rfl, ns⟩ := h
  obtain ⟨A, q, rfl⟩ := ns.own.rd.shape
  rw [ints_len] at ns ⊢
  exact ⟨A, q, rfl, ns⟩
theorem near_at (f : Flr) (hs : f.s.size ≤ 1000000) (c : Int) (hc : c ≤ 1000000) (L : List Nat) (hL : nearP f c = L) (w : World) : Calls Tryz.prog 47 #[f.val, .int .i64 c] w (RetI L w) := by
  subst hL; exact (near_any f (by omega) c (by omega) w).mono fun _ _ h => .of h
end Go.Proofs.YtmipnicdlldjnaaGreatDoor

namespace Go.Proofs.YtmipnicdlldjnaaGreatDoor
set_option linter.unusedVariables false
set_option linter.unusedSimpArgs false
open Go.RowKit

/-- Block g holds just these elements. -/
def Blk {α : Type} (enc : α → Value) (e : TypeId) (w : World) (g : Nat) (l : List α) : Prop := w.heap[g]? = some (.cells (l.map enc).toArray e (0, 0))
section
variable {α : Type} {enc : α → Value} {e : TypeId} {w w' : World} {g : Nat} {l : List α}
theorem Blk.get (h : Blk enc e w g l) {i : Nat} {x : α} (hx : l[i]? = some x) : w.cell? ⟨g, i, none⟩ = some (enc x) := (blk_cell h i).trans (by simp [hx])
theorem Blk.free (h : Blk enc e w g l) (i : Nat) : w.frozen? ⟨g, i, none⟩ = false := blk_free h i
theorem Blk.set (h : Blk enc e w g l) (i : Nat) (x : α) : Blk enc e (w.setCell ⟨g, i, none⟩ (enc x)) g (l.set i x) := by
  have := blk_set h i (enc x)
  unfold Blk
  rw [this, List.setIfInBounds_toArray, List.map_set]
theorem Blk.kp {S : Nat → Prop} (h : Blk enc e w g l) (hk : Kp S w w') (hn : ¬ S g) : Blk enc e w' g l := hk.blk h hn
theorem Blk.kpNo (h : Blk enc e w g l) (hk : Kp No w w') : Blk enc e w' g l := hk.blk h (no_no _)
theorem Blk.lt (h : Blk enc e w g l) : g < w.heap.size := lt_of_block h
theorem Blk.alloc (h : Blk enc e w g l) (o : Obj) : Blk enc e (w.alloc o) g l := blk_alloc h o
theorem Blk.far (h : Blk enc e w g l) {p : Addr} (hp : g ≠ p.block) (u : Value) : Blk enc e (w.setCell p u) g l := blk_far h hp u
end
/-- A kind of one cell. -/
structure K1 {α : Type} (K : Kd α) (enc : α → Value) : Prop where
  sz : K.sz = 1
  enc : ∀ x, K.enc x = [enc x]
theorem K1.encs {α : Type} {K : Kd α} {enc : α → Value} (h : K1 K enc) (l : List α) : K.encs l = l.map enc := by
  unfold Kd.encs
  induction l with
  | nil => rfl
  | cons a l ih => rw [List.flatMap_cons, h.enc, ih]; rfl
theorem Blk.rd {α : Type} {K : Kd α} {enc : α → Value} (hK : K1 K enc) {e : TypeId} {w : World} {g : Nat} {l : List α} (h : Blk enc e w g l) (cap : Nat) (hc : l.length ≤ cap) (hm : cap ≤ maxLen) : Rd K w (.slice (some ⟨g, 0, none⟩) l.length cap) l :=
  .inr ⟨g, 0, cap, rfl, hc, hm, fun j u hu => by
    rw [hK.encs, List.getElem?_map] at hu
    rw [Nat.zero_add, blk_cell h j, ← hu]
    simp⟩
theorem Blk.ownB {α : Type} {K : Kd α} {enc : α → Value} (hK : K1 K enc) {e : TypeId} {w : World} {g : Nat} {l : List α} (h : Blk enc e w g l) : OwnB K e w g l.length l :=
  ⟨_, h, Nat.le_refl _, by simp [hK.sz], by rw [hK.sz, hK.encs]; simp [List.take_of_length_le]⟩
theorem IK1 : K1 IK (Value.int .i64) := ⟨rfl, fun _ => rfl⟩
theorem run_mk {α : Type} {K : Kd α} {enc : α → Value} {P : Program} {t e : TypeId} {bytes : Nat} (E : ElT P t e K bytes) (hK : K1 K enc) (z0 : α) (hz : ∀ z, (P.info? e).bind (·.zero) = some z → z = enc z0) (ho : (enc z0).cells = #[enc z0]) (n : Nat) (hn : n ≤ 1000000) (hb : bytes ≤ 1000) (w : World) :
    (Instr.makeSlice t (.int .i64 (n : Int)) (.int .i64 (n : Int))).run P w = .ok (.slice (some ⟨w.heap.size, 0, none⟩) n n) (w.alloc (.cells ((List.replicate n z0).map enc).toArray e)) := by
  obtain ⟨ht, i, z, hi', hz', hsize, hby, hzs⟩ := E
  have hzz := hz z (by simp [hi', hz'])
  have hbb : i.bytes * n ≤ 1000 * 1000000 := Nat.mul_le_mul (by omega) hn
  have h1 : (i.bytes : Int) * (n : Int) ≤ 281474976710656 := by
    have : ((i.bytes * n : Nat) : Int) ≤ 281474976710656 := by omega
    rwa [Int.natCast_mul] at this
  have := run_make (P := P) w t e i z ht hi' hz' .i64 .i64 (n : Int) n (by omega) (Int.le_refl _) h1 (by omega)
  simp only [Int.toNat_natCast] at this
  rw [this]
  have hc : madeCells z.cells (n * i.size) = ((List.replicate n z0).map enc).toArray := by
    rw [hsize, hK.sz, Nat.mul_one, hzz, ho]
    apply Array.ext
    · simp [madeCells]
    · intro j h1 h2; simp [madeCells, Nat.mod_one]
  rw [hc]
/-- A bool's cell. -/
def BoK : Kd Bool := { sz := 1, enc := fun x => [.bool x], len := fun _ => rfl, one := by intro a v hv; simp at hv; subst hv; rfl, pos := by decide }
theorem BoK1 : K1 BoK Value.bool := ⟨rfl, fun _ => rfl⟩
theorem elBo : ElT Tryz.prog 49 4 BoK 1 := ElT.of (z := .bool false) (by kernel_rfl) (by kernel_rfl) rfl
theorem run_mkBo (n : Nat) (hn : n ≤ 1000000) (w : World) : (Instr.makeSlice 49 (.int .i64 (n : Int)) (.int .i64 (n : Int))).run Tryz.prog w = .ok (.slice (some ⟨w.heap.size, 0, none⟩) n n) (w.alloc (.cells ((List.replicate n false).map Value.bool).toArray 4)) :=
  run_mk elBo BoK1 false (fun z hz => by have h : (Tryz.prog.info? 4).bind (·.zero) = some (.bool false) := by kernel_rfl
                                         rw [h] at hz; cases hz; rfl) rfl n hn (by decide) w
end Go.Proofs.YtmipnicdlldjnaaGreatDoor

namespace Go.Proofs.YtmipnicdlldjnaaGreatDoor
set_option linter.unusedVariables false
set_option linter.unusedSimpArgs false
open Go.RowKit

abbrev SlC := Option Addr × Nat × Nat
def slv (x : SlC) : Value := .slice x.1 x.2.1 x.2.2
/-- A slice's cell. -/
def SvK : Kd SlC := { sz := 1, enc := fun x => [slv x], len := fun _ => rfl, one := by intro a v hv; simp at hv; subst hv; rfl, pos := by decide }
theorem SvK1 : K1 SvK slv := ⟨rfl, fun _ => rfl⟩
theorem elSv : ElT Tryz.prog 48 24 SvK 24 := ElT.of (z := .slice none 0 0) (by kernel_rfl) (by kernel_rfl) rfl
theorem run_mkSv (n : Nat) (hn : n ≤ 1000000) (w : World) : (Instr.makeSlice 48 (.int .i64 (n : Int)) (.int .i64 (n : Int))).run Tryz.prog w = .ok (.slice (some ⟨w.heap.size, 0, none⟩) n n) (w.alloc (.cells ((List.replicate n (none, 0, 0)).map slv).toArray 24)) :=
  run_mk elSv SvK1 (none, 0, 0) (fun z hz => by have h : (Tryz.prog.info? 24).bind (·.zero) = some (.slice none 0 0) := by kernel_rfl
                                                rw [h] at hz; cases hz; rfl) rfl n hn (by decide) w

noncomputable def ptOk (f : Flr) (from_ : Int) : Bool := decide (0 ≤ from_) && decide (from_ < f.s.size) && rightB f && (bt f.s from_.toNat != 35)
def blkB (n : Nat) (B : List Int) : List Bool := (List.range n).map fun (i : Nat) => decide ((i : Int) ∈ B)
def lnB (f : Flr) (n k : Nat) : List Bool := (List.range n).map fun i => decide (i < k ∧ kdS f.s i = 2)
theorem blkB_len (n : Nat) (B : List Int) : (blkB n B).length = n := by simp [blkB]
theorem lnB_len (f : Flr) (n k : Nat) : (lnB f n k).length = n := by simp [lnB]
theorem blkB_get {n : Nat} {B : List Int} {i : Nat} (h : i < n) : (blkB n B)[i]? = some (decide ((i : Int) ∈ B)) := by simp [blkB, List.getElem?_range h]
theorem lnB_get {f : Flr} {n k i : Nat} (h : i < n) : (lnB f n k)[i]? = some (decide (i < k ∧ kdS f.s i = 2)) := by simp [lnB, List.getElem?_range h]
theorem blkB_none (n : Nat) : blkB n [] = List.replicate n false := by
  apply List.ext_getElem?
  intro i
  rcases Nat.lt_or_ge i n with h | h
  · rw [blkB_get h, List.getElem?_replicate, if_pos h]; simp
  · rw [List.getElem?_eq_none (by rw [blkB_len]; exact h), List.getElem?_eq_none (by simpa using h)]
theorem lnB_none (f : Flr) (n : Nat) : lnB f n 0 = List.replicate n false := by
  apply List.ext_getElem?
  intro i
  rcases Nat.lt_or_ge i n with h | h
  · rw [lnB_get h, List.getElem?_replicate, if_pos h]; simp
  · rw [List.getElem?_eq_none (by rw [lnB_len]; exact h), List.getElem?_eq_none (by simpa using h)]
theorem lnB_succ {f : Flr} {n k : Nat} (h : k < n) : (lnB f n k).set k (decide (kdS f.s k = 2)) = lnB f n (k + 1) := by
  apply List.ext_getElem?
  intro i
  rw [List.getElem?_set, lnB_len]
  rcases Nat.lt_or_ge i n with h2 | h2
  · rw [lnB_get h2, lnB_get h2]
    by_cases e : k = i
    · subst e; simp [h]
    · rw [if_neg e]; congr 1; rw [decide_eq_decide]; omega
  · rw [List.getElem?_eq_none (by rw [lnB_len]; exact h2), List.getElem?_eq_none (by rw [lnB_len]; exact h2), if_neg (by omega)]
theorem blkB_in {n : Nat} {B : List Int} {j b : Nat} (hx : B[j]? = some (b : Int)) (h : b < n) : blkB n (B.take (j + 1)) = (blkB n (B.take j)).set b true := by
  apply List.ext_getElem?
  intro i
  rw [List.getElem?_set, blkB_len, List.take_add_one, hx]
  rcases Nat.lt_or_ge i n with h2 | h2
  · rw [blkB_get h2, blkB_get h2]
    by_cases e : b = i
    · subst e; simp [h]
    · rw [if_neg e]; congr 1; simp; intro e2; omega
  · rw [List.getElem?_eq_none (by rw [blkB_len]; exact h2), List.getElem?_eq_none (by rw [blkB_len]; exact h2), if_neg (by omega)]
theorem blkB_out {n : Nat} {B : List Int} {j : Nat} {x : Int} (hx : B[j]? = some x) (h : x < 0 ∨ (n : Int) ≤ x) : blkB n (B.take (j + 1)) = blkB n (B.take j) := by
  apply List.ext_getElem?
  intro i
  rw [List.take_add_one, hx]
  rcases Nat.lt_or_ge i n with h2 | h2
  · rw [blkB_get h2, blkB_get h2]
    congr 1; simp; intro e2; omega
  · rw [List.getElem?_eq_none (by rw [blkB_len]; exact h2), List.getElem?_eq_none (by rw [blkB_len]; exact h2)]

/-- The lists of what is near, up to the k-th. -/
structure NrT (f : Flr) (w0 : World) (g1 k : Nat) (Vs : List SlC) (w : World) : Prop where
  bl : Blk slv 24 w g1 Vs
  len : Vs.length = f.s.size
  rd : ∀ (i : Nat) v, i < k → Vs[i]? = some v → Rd IK w (slv v) (ints (nearP f i)) ∧ ∀ g, (slv v).ownBlock = some g → w0.heap.size ≤ g
theorem NrT.no {f : Flr} {w0 w w' : World} {g1 k : Nat} {Vs : List SlC} (h : NrT f w0 g1 k Vs w) (hk : Kp No w w') : NrT f w0 g1 k Vs w' :=
  ⟨h.bl.kpNo hk, h.len, fun i v hi hv => ⟨(h.rd i v hi hv).1.kpNo hk, (h.rd i v hi hv).2⟩⟩
theorem NrT.kp {S : Nat → Prop} {f : Flr} {w0 w w' : World} {g1 k : Nat} {Vs : List SlC} (h : NrT f w0 g1 k Vs w) (hk : Kp S w w') (h1 : ¬ S g1) (h2 : ∀ j, S j → j < w0.heap.size) : NrT f w0 g1 k Vs w' :=
  ⟨h.bl.kp hk h1, h.len, fun i v hi hv => ⟨(h.rd i v hi hv).1.kp hk (fun g hg hs => by have := (h.rd i v hi hv).2 g hg; have := h2 g hs; omega), (h.rd i v hi hv).2⟩⟩
theorem NrT.put {f : Flr} {w0 w : World} {g1 k : Nat} {Vs : List SlC} (h : NrT f w0 g1 k Vs w) (hg : g1 < w0.heap.size) (hk : k < f.s.size) (x : SlC) (hr : Rd IK w (slv x) (ints (nearP f k))) (hb : ∀ g, (slv x).ownBlock = some g → w0.heap.size ≤ g) :
    NrT f w0 g1 (k + 1) (Vs.set k x) (w.setCell ⟨g1, k, none⟩ (slv x)) := by
  have hs := (Kp.refl (fun j => j = g1) w).setCell (p := ⟨g1, k, none⟩) (fun _ => rfl) (slv x)
  refine ⟨h.bl.set k x, by rw [List.length_set]; exact h.len, fun i v hi hv => ?_⟩
  rw [List.getElem?_set] at hv
  split at hv
  · rename_i e; subst e
    rw [if_pos (by rw [h.len]; exact hk)] at hv; cases hv
    exact ⟨hr.kp hs (fun g hg' e => by have := hb g hg'; omega), hb⟩
  · have hl : i < Vs.length := (List.getElem?_eq_some_iff.1 hv).1
    have := h.rd i v (by omega) hv
    exact ⟨this.1.kp hs (fun g hg' e => by have := this.2 g hg'; omega), this.2⟩
/-- A plan in memory. -/
structure PlW (f : Flr) (fr : Nat) (bl : List Bool) (p g1 g2 g3 : Nat) (Vs : List SlC) (w : World) : Prop where
  blk : w.heap[p]? = some (.cells #[.slice (some ⟨g1, 0, none⟩) f.s.size f.s.size, .slice (some ⟨g2, 0, none⟩) f.s.size f.s.size, .slice (some ⟨g3, 0, none⟩) f.s.size f.s.size, .int .i64 (fr : Int)] 98 (0, 0))
  nr : Blk slv 24 w g1 Vs
  ln : Blk Value.bool 4 w g2 (lnB f f.s.size f.s.size)
  bk : Blk Value.bool 4 w g3 bl
  len : Vs.length = f.s.size
  bln : bl.length = f.s.size
  rd : ∀ (i : Nat) v, Vs[i]? = some v → Rd IK w (slv v) (ints (nearP f i))
section
variable {f : Flr} {fr p g1 g2 g3 : Nat} {bl : List Bool} {Vs : List SlC} {w w' : World}
theorem PlW.no (h : PlW f fr bl p g1 g2 g3 Vs w) (hk : Kp No w w') : PlW f fr bl p g1 g2 g3 Vs w' := ⟨hk.blk h.blk (no_no _), h.nr.kpNo hk, h.ln.kpNo hk, h.bk.kpNo hk, h.len, h.bln, fun i v hv => (h.rd i v hv).kpNo hk⟩
theorem PlW.c0 (h : PlW f fr bl p g1 g2 g3 Vs w) : w.cell? ⟨p, 0, none⟩ = some (.slice (some ⟨g1, 0, none⟩) f.s.size f.s.size) := blk_cell h.blk 0
theorem PlW.c1 (h : PlW f fr bl p g1 g2 g3 Vs w) : w.cell? ⟨p, 1, none⟩ = some (.slice (some ⟨g2, 0, none⟩) f.s.size f.s.size) := blk_cell h.blk 1
theorem PlW.c2 (h : PlW f fr bl p g1 g2 g3 Vs w) : w.cell? ⟨p, 2, none⟩ = some (.slice (some ⟨g3, 0, none⟩) f.s.size f.s.size) := blk_cell h.blk 2
theorem PlW.c3 (h : PlW f fr bl p g1 g2 g3 Vs w) : w.cell? ⟨p, 3, none⟩ = some (.int .i64 (fr : Int)) := blk_cell h.blk 3
end
end Go.Proofs.YtmipnicdlldjnaaGreatDoor

namespace Go.Proofs.YtmipnicdlldjnaaGreatDoor
set_option linter.unusedVariables false
set_option linter.unusedSimpArgs false
open Go.RowKit

set_option maxHeartbeats 1000000 in
set_option maxRecDepth 100000 in
theorem ptof_no (f : Flr) (hsz : f.s.size ≤ 1000000) (fr : Int) (bv : Value) (h : ptOk f fr = false) (w : World) :
    Calls Tryz.prog 36 #[f.val, .int .i64 fr, bv] w fun e w' => e = .returned (.tuple #[.pointer none, .bool false]) ∧ Kp No w w' := by
  have HBX := Lib.hid (BxW.new f w)
  obtain ⟨n, hn⟩ : ∃ n, n = f.s.size := ⟨_, rfl⟩
  have hnI : ((f.s.size : Nat) : Int) = (n : Int) := by omega
  unfold ptOk at h
  rw [← hn] at h
  by_cases h0 : fr < 0
  · have h0b : decide (fr < 0) = true := by simpa using h0
    obtain ⟨X, Y, s⟩ := f
    unfold Flr.val
    clear h hn hnI hsz
    go_enter Tryz.func36, Tryz.ntmps36
    go_wp2_with fail
    go_ret2
    exact ⟨rfl, HBX.out.kp⟩
  · have h0b : decide (fr < 0) = false := by simpa using h0
    by_cases h1 : (n : Int) ≤ fr
    · have h1b : decide ((n : Int) ≤ fr) = true := by simpa using h1
      obtain ⟨X, Y, s⟩ := f
      simp only at hnI
      unfold Flr.val
      clear h hn hsz
      go_enter Tryz.func36, Tryz.ntmps36
      go_wp2_with fail
      go_ret2
      exact ⟨rfl, HBX.out.kp⟩
    · have h1b : decide ((n : Int) ≤ fr) = false := by simpa using h1
      obtain ⟨j, rfl⟩ : ∃ j : Nat, fr = j := ⟨fr.toNat, by omega⟩
      cases hb : rightB f with
      | false =>
        have HRT := Lib.hid (right_at f (by omega) false hb)
        obtain ⟨X, Y, s⟩ := f
        simp only at hnI
        unfold Flr.val at HRT ⊢
        clear h hn hsz hb
        go_enter Tryz.func36, Tryz.ntmps36
        go_wp2_with (go_at_call 33; refine (HRT.out _).mono ?_; rintro e w1 ⟨rfl, kp1⟩; have K1 := Lib.hid kp1; clear kp1)
        go_ret2
        exact ⟨rfl, HBX.out.kp.no K1.out⟩
      | true =>
        have h35 : bt f.s j = 35 := by
          rw [hb] at h; simp at h; first | exact h | exact h (by omega) (by omega) | exact h (by omega)
        have HRT := Lib.hid (right_at f (by omega) true hb)
        have hjs : j < f.s.size := by omega
        have hbt := bt_at f.s j hjs
        rw [h35] at hbt
        obtain ⟨X, Y, s⟩ := f
        simp only at hnI hbt hjs
        have hbs : ((s[j]'hjs).toNat : Int) = 35 := by rw [hbt]; rfl
        unfold Flr.val at HRT ⊢
        clear h hn hsz hb h35
        go_enter Tryz.func36, Tryz.ntmps36
        go_wp2_with (go_at_call 33; refine (HRT.out _).mono ?_; rintro e w1 ⟨rfl, kp1⟩; have K1 := Lib.hid kp1; have hb2 : w1.cell? ⟨w.heap.size, 2, none⟩ = some (.string s) := (HBX.out.no K1.out).c2; clear kp1)
        go_ret2
        exact ⟨rfl, HBX.out.kp.no K1.out⟩

/-- Behind the makes: the plan's blocks, still empty. -/
structure OfS (f : Flr) (fr p g1 g2 g3 : Nat) (w0 w : World) : Prop where
  blk : w.heap[p]? = some (.cells #[.slice (some ⟨g1, 0, none⟩) f.s.size f.s.size, .slice (some ⟨g2, 0, none⟩) f.s.size f.s.size, .slice (some ⟨g3, 0, none⟩) f.s.size f.s.size, .int .i64 (fr : Int)] 98 (0, 0))
  nr : Blk slv 24 w g1 (List.replicate f.s.size (none, 0, 0))
  ln : Blk Value.bool 4 w g2 (List.replicate f.s.size false)
  bk : Blk Value.bool 4 w g3 (List.replicate f.s.size false)
  d12 : g1 ≠ g2
  d13 : g1 ≠ g3
  d23 : g2 ≠ g3
  d1 : g1 ≠ p
  d2 : g2 ≠ p
  d3 : g3 ≠ p
  ge : w0.heap.size ≤ g1 ∧ w0.heap.size ≤ g2 ∧ w0.heap.size ≤ g3 ∧ w0.heap.size ≤ p
  kp : Kp No w0 w
theorem blk_n1 (w : World) (o1 o2 : Obj) : ((w.alloc o1).alloc o2).heap[w.heap.size + 1]? = some o2 := by have := blk_new (w.alloc o1) o2; simpa using this
theorem blk_n2 (w : World) (o1 o2 o3 : Obj) : (((w.alloc o1).alloc o2).alloc o3).heap[w.heap.size + 1 + 1]? = some o3 := by have := blk_new ((w.alloc o1).alloc o2) o3; simpa using this
theorem ofS_mk {f : Flr} {fr n : Nat} (hn : n = f.s.size) {w0 wa : World} {p g1 g2 g3 : Nat} (h1 : wa.heap[g1]? = some (.cells (Array.replicate n (slv (none, 0, 0))) 24 (0, 0))) (h2 : wa.heap[g2]? = some (.cells (Array.replicate n (.bool false)) 4 (0, 0))) (h3 : wa.heap[g3]? = some (.cells (Array.replicate n (.bool false)) 4 (0, 0)))
    (d : g1 ≠ g2 ∧ g1 ≠ g3 ∧ g2 ≠ g3) (kp : Kp No w0 wa) (hge : w0.heap.size ≤ g1 ∧ w0.heap.size ≤ g2 ∧ w0.heap.size ≤ g3) (hp : p = wa.heap.size) :
    OfS f fr p g1 g2 g3 w0 (wa.alloc (.cells #[.slice (some ⟨g1, 0, none⟩) n n, .slice (some ⟨g2, 0, none⟩) n n, .slice (some ⟨g3, 0, none⟩) n n, .int .i64 (fr : Int)] 98)).drew := by
  subst hn hp
  have l1 := lt_of_block h1; have l2 := lt_of_block h2; have l3 := lt_of_block h3
  have := kp.size
  refine ⟨blk_new _ _, blk_alloc (h1.trans (by simp)) _, blk_alloc (h2.trans (by simp)) _, blk_alloc (h3.trans (by simp)) _, d.1, d.2.1, d.2.2, ?_, ?_, ?_, ⟨hge.1, hge.2.1, hge.2.2, this⟩, (kp.alloc _).drew⟩ <;> omega
/-- In the first loop: k cells are done; what is near is laid for m of them. -/
structure LpS (f : Flr) (fr p g1 g2 g3 m k bf : Nat) (Vs : List SlC) (w0 wA w : World) : Prop where
  blk : w.heap[p]? = some (.cells #[.slice (some ⟨g1, 0, none⟩) f.s.size f.s.size, .slice (some ⟨g2, 0, none⟩) f.s.size f.s.size, .slice (some ⟨g3, 0, none⟩) f.s.size f.s.size, .int .i64 (fr : Int)] 98 (0, 0))
  nr : NrT f wA g1 m Vs w
  ln : Blk Value.bool 4 w g2 (lnB f f.s.size k)
  bk : Blk Value.bool 4 w g3 (List.replicate f.s.size false)
  bx : BxW f bf w0 w
  lt : g1 < wA.heap.size ∧ g2 < wA.heap.size ∧ wA.heap.size ≤ w.heap.size
section
variable {f : Flr} {fr p g1 g2 g3 m k bf : Nat} {Vs : List SlC} {w0 wA w w' : World}
theorem LpS.no (h : LpS f fr p g1 g2 g3 m k bf Vs w0 wA w) (hk : Kp No w w') : LpS f fr p g1 g2 g3 m k bf Vs w0 wA w' :=
  ⟨hk.blk h.blk (no_no _), h.nr.no hk, h.ln.kpNo hk, h.bk.kpNo hk, h.bx.no hk, ⟨h.lt.1, h.lt.2.1, Nat.le_trans h.lt.2.2 hk.size⟩⟩
theorem BxW.kps {S : Nat → Prop} (h : BxW f bf w0 w) (hk : Kp S w w') (h1 : ¬ S bf) (h2 : ∀ j, S j → w0.heap.size ≤ j) : BxW f bf w0 w' :=
  ⟨hk.blk h.box h1, h.kp.trans' hk fun j hj e => by have := h2 j e; omega⟩
theorem LpS.put1 (h : LpS f fr p g1 g2 g3 m k bf Vs w0 wA w) (hm : m < f.s.size) (d : g1 ≠ g2 ∧ g1 ≠ g3 ∧ g1 ≠ p ∧ g1 ≠ bf ∧ w0.heap.size ≤ g1) (x : SlC) (hr : Rd IK w (slv x) (ints (nearP f m))) (hb : ∀ g, (slv x).ownBlock = some g → wA.heap.size ≤ g) :
    LpS f fr p g1 g2 g3 (m + 1) k bf (Vs.set m x) w0 wA (w.setCell ⟨g1, m, none⟩ (slv x)) := by
  have hs := (Kp.refl (fun j => j = g1) w).setCell (p := ⟨g1, m, none⟩) (fun _ => rfl) (slv x)
  exact ⟨hs.blk h.blk (fun e => d.2.2.1 e.symm), h.nr.put h.lt.1 hm x hr hb, h.ln.kp hs (fun e => d.1 e.symm), h.bk.kp hs (fun e => d.2.1 e.symm), h.bx.kps hs (fun e => d.2.2.2.1 e.symm) (fun j e => by have := d.2.2.2.2; omega), ⟨h.lt.1, h.lt.2.1, Nat.le_trans h.lt.2.2 hs.size⟩⟩
theorem LpS.put2 (h : LpS f fr p g1 g2 g3 m k bf Vs w0 wA w) (hk : k < f.s.size) (d : g2 ≠ g1 ∧ g2 ≠ g3 ∧ g2 ≠ p ∧ g2 ≠ bf ∧ w0.heap.size ≤ g2) (b : Bool) (hb : b = decide (kdS f.s k = 2)) :
    LpS f fr p g1 g2 g3 m (k + 1) bf Vs w0 wA (w.setCell ⟨g2, k, none⟩ (.bool b)) := by
  have hs := (Kp.refl (fun j => j = g2) w).setCell (p := ⟨g2, k, none⟩) (fun _ => rfl) (.bool b)
  have hl := h.ln.set k b
  rw [hb, lnB_succ hk, ← hb] at hl
  exact ⟨hs.blk h.blk (fun e => d.2.2.1 e.symm), h.nr.kp hs (fun e => d.1 e.symm) (fun j e => by have := h.lt.2.1; omega), hl, h.bk.kp hs (fun e => d.2.1 e.symm), h.bx.kps hs (fun e => d.2.2.2.1 e.symm) (fun j e => by have := d.2.2.2.2; omega), ⟨h.lt.1, h.lt.2.1, Nat.le_trans h.lt.2.2 hs.size⟩⟩
theorem LpS.c0 (h : LpS f fr p g1 g2 g3 m k bf Vs w0 wA w) : w.cell? ⟨p, 0, none⟩ = some (.slice (some ⟨g1, 0, none⟩) f.s.size f.s.size) := blk_cell h.blk 0
theorem LpS.c1 (h : LpS f fr p g1 g2 g3 m k bf Vs w0 wA w) : w.cell? ⟨p, 1, none⟩ = some (.slice (some ⟨g2, 0, none⟩) f.s.size f.s.size) := blk_cell h.blk 1
theorem LpS.c2 (h : LpS f fr p g1 g2 g3 m k bf Vs w0 wA w) : w.cell? ⟨p, 2, none⟩ = some (.slice (some ⟨g3, 0, none⟩) f.s.size f.s.size) := blk_cell h.blk 2
theorem OfS.lp (h : OfS f fr p g1 g2 g3 w' w) (bx : BxW f bf w0 w') : LpS f fr p g1 g2 g3 0 0 bf (List.replicate f.s.size (none, 0, 0)) w0 w w :=
  ⟨h.blk, ⟨h.nr, by simp, fun i v hi => by omega⟩, by rw [lnB_none]; exact h.ln, h.bk, bx.no h.kp, ⟨h.nr.lt, h.ln.lt, Nat.le_refl _⟩⟩
end
theorem PlW.put3 {f : Flr} {fr p g1 g2 g3 : Nat} {bl : List Bool} {Vs : List SlC} {w : World} (h : PlW f fr bl p g1 g2 g3 Vs w) (hd : ∀ (i : Nat) v, Vs[i]? = some v → ∀ g, (slv v).ownBlock = some g → g ≠ g3) (d : p ≠ g3 ∧ g1 ≠ g3 ∧ g2 ≠ g3) (b : Nat) :
    PlW f fr (bl.set b true) p g1 g2 g3 Vs (w.setCell ⟨g3, b, none⟩ (.bool true)) := by
  have hs := (Kp.refl (fun j => j = g3) w).setCell (p := ⟨g3, b, none⟩) (fun _ => rfl) (.bool true)
  exact ⟨hs.blk h.blk d.1, h.nr.kp hs d.2.1, h.ln.kp hs d.2.2, h.bk.set b true, h.len, by rw [List.length_set]; exact h.bln, fun i v hv => (h.rd i v hv).kp hs (hd i v hv)⟩
theorem LpS.pl {f : Flr} {fr p g1 g2 g3 bf : Nat} {Vs : List SlC} {w0 wA w : World} (h : LpS f fr p g1 g2 g3 f.s.size f.s.size bf Vs w0 wA w) : PlW f fr (blkB f.s.size []) p g1 g2 g3 Vs w :=
  ⟨h.blk, h.nr.bl, h.ln, by rw [blkB_none]; exact h.bk, h.nr.len, blkB_len _ _, fun i v hv => (h.nr.rd i v (by have := (List.getElem?_eq_some_iff.1 hv).1; rw [h.nr.len] at this; exact this) hv).1⟩
theorem zone_isSome (f : Flr) (i : Nat) (hr : rightB f = true) (hi : i < f.s.size) : (zoneP f i).isSome = decide (kdS f.s i = 2) := by
  unfold zoneP isB
  rw [hr]
  by_cases h : kdS f.s i = 2
  · simp [h, hi]
  · simp [h]; intro _ h2; omega
set_option maxHeartbeats 2000000 in
set_option maxRecDepth 100000 in
theorem ptof_ok (f : Flr) (hsz : f.s.size ≤ 1000000) (fr : Nat) {bv : Value} {B : List Int} {w : World} (hB : Rd IK w bv B) (h : ptOk f fr = true) :
    Calls Tryz.prog 36 #[f.val, .int .i64 (fr : Int), bv] w fun e w' => ∃ p g1 g2 g3 Vs, e = .returned (.tuple #[.pointer (some ⟨p, 0, none⟩), .bool true]) ∧ PlW f fr (blkB f.s.size B) p g1 g2 g3 Vs w' ∧ Kp No w w' := by
  have HBX := Lib.hid (BxW.new f w)
  obtain ⟨n, hn⟩ : ∃ n, n = f.s.size := ⟨_, rfl⟩
  have hnI : ((f.s.size : Nat) : Int) = (n : Int) := by omega
  unfold ptOk at h
  rw [← hn] at h
  simp only [Bool.and_eq_true, decide_eq_true_eq, bne_iff_ne, Int.toNat_natCast] at h
  obtain ⟨⟨⟨_, h1⟩, hb⟩, h35⟩ := h
  have h1b : decide ((n : Int) ≤ (fr : Int)) = false := by simpa using h1
  have h0b : decide ((fr : Int) < 0) = false := by simp
  have HRT := Lib.hid (right_at f (by omega) true hb)
  have HR := Lib.hid hb
  have hjs : fr < f.s.size := by omega
  have hbt := bt_at f.s fr hjs
  have h35b : ((bt f.s fr : Int) == 35) = false := by simp; omega
  have hLB := hB.lenI
  obtain ⟨AB, cB, rfl⟩ := hB.shape
  have HBr := Lib.hid hB
  have hmS := run_mkSv n (by omega)
  have hmB := run_mkBo n (by omega)
  have HNE := Lib.hid hn
  obtain ⟨F, hF⟩ : ∃ F, F = f := ⟨_, rfl⟩
  have HF := Lib.hid hF
  obtain ⟨X, Y, s⟩ := f
  simp only at hnI hbt hjs h35b hn hsz
  have hbs : ((s[fr]'hjs).toNat : Int) = (bt s fr : Int) := by rw [hbt]
  have hn1 : n ≤ 1000000 := by omega
  obtain ⟨nB, hnB⟩ : ∃ nB, nB = B.length := ⟨_, rfl⟩
  rw [← hnB] at HBr hLB ⊢
  have HNB := Lib.hid hnB
  unfold maxLen at hLB
  unfold Flr.val at HRT ⊢
  clear hb h35 hF hn hB hnB hsz
  go_enter Tryz.func36, Tryz.ntmps36
  go_upto_region 4 with (go_at_call 33; refine (HRT.out _).mono ?_; rintro e w1 ⟨rfl, kp1⟩; have B1 := Lib.hid (HBX.out.no kp1); have hb2 : w1.cell? ⟨w.heap.size, 2, none⟩ = some (.string s) := B1.out.c2; clear kp1)
  go_cut [9, 37, 38, 39, 40, 41, 42, 43, 44, 45] (fun pv _ _ _ _ _ _ _ _ _ wx => ∃ p g1 g2 g3, pv = .pointer (some ⟨p, 0, none⟩) ∧ OfS F fr p g1 g2 g3 w1 wx)
  case first =>
    go_region
    all_goals go_wp2_with fail
    all_goals go_meet
    all_goals
      have hnF : n = F.s.size := by rw [HF.out]; exact HNE.out
      refine ⟨w1.heap.size + 1 + 1 + 1, _, _, _, rfl, ofS_mk hnF ?_ ?_ ?_ ?_ (((Kp.refl No w1).alloc _).alloc _ |>.alloc _) ?_ ?_⟩
      · first | exact blk_n2 _ _ _ _ | exact blk_alloc (blk_n1 _ _ _) _ | exact blk_alloc (blk_alloc (blk_new _ _) _) _
      · first | exact blk_n2 _ _ _ _ | exact blk_alloc (blk_n1 _ _ _) _ | exact blk_alloc (blk_alloc (blk_new _ _) _) _
      · first | exact blk_n2 _ _ _ _ | exact blk_alloc (blk_n1 _ _ _) _ | exact blk_alloc (blk_alloc (blk_new _ _) _) _
      · omega
      · omega
      · simp
  case rest =>
    obtain ⟨p, g1, g2, g3, rfl, os⟩ := hcut
    obtain ⟨bf, hbf⟩ : ∃ bf, bf = w.heap.size := ⟨_, rfl⟩
    have bfl : bf < w1.heap.size := by rw [hbf]; exact lt_of_block B1.out.box
    rw [← hbf] at B1 hb2 ⊢
    have B1F : BxW F bf w w1 := by rw [HF.out]; exact B1.out
    have D := Lib.hid (And.intro os.d12 (And.intro os.d13 (And.intro os.d23 (And.intro os.d1 (And.intro os.d2 os.d3)))))
    have G := Lib.hid (show g1 ≠ bf ∧ g2 ≠ bf ∧ g3 ≠ bf ∧ p ≠ bf ∧ w.heap.size ≤ g1 ∧ w.heap.size ≤ g2 ∧ w.heap.size ≤ g3 by
      have := os.ge; have := B1F.kp.size; omega)
    have L0 := Lib.hid (os.lp B1F)
    have G3 := Lib.hid os.bk.lt
    have hnF : n = F.s.size := by rw [HF.out]; exact HNE.out
    have HNF := Lib.hid hnF
    have HRF := Lib.hid (show rightB F = true by rw [HF.out]; exact HR.out)
    obtain ⟨Xb, hXb⟩ : ∃ x : Value, x = .string s := ⟨_, rfl⟩
    clear os B1F hbf hmS hmB hnF
    go_wp2_with fail
    go_loopg [47] (n + 1) (fun g2_ ii wx => ∃ (k : Nat) (Vs : List SlC), g2_ = n + 1 - k ∧ ii = .int .i64 k ∧ k ≤ n ∧ LpS F fr p g1 g2 g3 k k bf Vs w wc wx)
    case atStart => exact ⟨0, _, rfl, rfl, by omega, L0.out⟩
    case round =>
      obtain ⟨k, Vs, hgk, rfl, hk, ls⟩ := hrel
      have LS := Lib.hid ls
      clear ls
      by_cases hlt : k < n
      · have hltI : (k : Int) < (n : Int) := by omega
        have hwk : IntKind.i64.wrap ((k : Int) + 1) = (k : Int) + 1 := IntWalk.i64_in _ (by omega)
        have hkF : k < F.s.size := by rw [← HNF.out]; exact hlt
        obtain ⟨L, hL⟩ : ∃ L, nearP F k = L := ⟨_, rfl⟩
        have NE := Lib.hid (near_at F (by rw [← HNF.out]; exact hn1) k (by omega) L hL)
        obtain ⟨Z, hZ⟩ : ∃ Z, zoneP F k = Z := ⟨_, rfl⟩
        obtain ⟨zi, hzi⟩ : ∃ zi : Nat, zi = Z.getD 0 := ⟨_, rfl⟩
        obtain ⟨zb, hzb⟩ : ∃ zb : Bool, zb = Z.isSome := ⟨_, rfl⟩
        have ZO := Lib.hid (zone_at F (by rw [← HNF.out]; exact hn1) k (by omega) Z hZ (.tuple #[.int .i64 (zi : Int), .bool zb]) (by rw [hzi, hzb]; rfl))
        have HZB := Lib.hid (show zb = decide (kdS F.s k = 2) by rw [hzb, ← hZ]; exact zone_isSome F k HRF.out hkF)
        rw [HF.out] at NE ZO
        unfold Flr.val at NE ZO
        simp only at NE ZO
        have HL := Lib.hid hL; have HKF := Lib.hid hkF
        clear hL hZ hzi hzb hkF hlt
        have lc0 : ∀ wx, LpS F fr p g1 g2 g3 k k bf Vs w wc wx → wx.cell? ⟨p, 0, none⟩ = some (.slice (some ⟨g1, 0, none⟩) n n) := fun wx h => by have := h.c0; rwa [← HNF.out] at this
        have lc1 : ∀ wx Vs', LpS F fr p g1 g2 g3 (k + 1) k bf Vs' w wc wx → wx.cell? ⟨p, 1, none⟩ = some (.slice (some ⟨g2, 0, none⟩) n n) := fun wx Vs' h => by have := h.c1; rwa [← HNF.out] at this
        have lb : ∀ wx m Vs', LpS F fr p g1 g2 g3 m k bf Vs' w wc wx → wx.cell? ⟨bf, 0, none⟩ = some (.int .i64 X) ∧ wx.cell? ⟨bf, 1, none⟩ = some (.int .i64 Y) ∧ wx.cell? ⟨bf, 2, none⟩ = some (.string s) := fun wx m Vs' h => by
          have h0 := h.bx.c0; have h1 := h.bx.c1; have h2 := h.bx.c2
          rw [HF.out] at h0 h1 h2; exact ⟨h0, h1, h2⟩
        have LC0 := Lib.hid lc0; have LC1 := Lib.hid lc1; have LB := Lib.hid lb
        clear lc0 lc1 lb hb2
        have hc0 := LC0.out _ LS.out
        obtain ⟨v0, hv0⟩ : ∃ v, Vs[k]? = some v := ⟨_, List.getElem?_eq_getElem (by rw [LS.out.nr.len]; exact HKF.out)⟩
        have HV0 := Lib.hid hv0
        clear hv0
        have DD := D.out; have GG := G.out
        have D1 := Lib.hid (show g1 ≠ g2 ∧ g1 ≠ g3 ∧ g1 ≠ p ∧ g1 ≠ bf ∧ w.heap.size ≤ g1 by omega)
        have D2 := Lib.hid (show g2 ≠ g1 ∧ g2 ≠ g3 ∧ g2 ≠ p ∧ g2 ≠ bf ∧ w.heap.size ≤ g2 by omega)
        clear DD GG
        obtain ⟨hb0, hb1, hb2⟩ := LB.out _ _ _ LS.out
        go_upto_region 8 with fail
        go_cut [50, 51, 52, 53, 54, 55, 56, 57, 58] (fun _ _ _ _ _ _ _ _ _ wx => ∃ Vs', LpS F fr p g1 g2 g3 (k + 1) k bf Vs' w wc wx)
        case first =>
          go_region_law (go_simp; go_at_call 47; refine (NE.out _).mono ?_; rintro e w3 ⟨A, q, rfl, ns⟩; have L3 := LS.out.no (w' := w3) (Kp.trans ((Kp.refl No wr).drew) ns.kp); have d0 := LC0.out _ L3; have df : w3.frozen? ⟨g1, k, none⟩ = false := L3.nr.bl.free k; have dg : w3.cell? ⟨g1, k, none⟩ = some (slv v0) := L3.nr.bl.get HV0.out; have L3 := Lib.hid L3; have NS := Lib.hid ns; clear ns)
          all_goals
            go_wp2_with fail
            go_meet
            have hlA := L3.out.nr.bl.lt
            exact ⟨_, (L3.out.put1 HKF.out D1.out (A, L.length, q) (by rw [HL.out]; exact NS.out.own.rd) (fun g hg => Nat.le_trans (by have := LS.out.lt.2.2; simpa using this) (NS.out.ge g hg))).no (Kp.refl _ _)⟩
        case rest =>
          obtain ⟨V2, l2⟩ := hcut
          have L2 := Lib.hid l2
          clear l2 hc0 hb0 hb1 hb2 LC0 NE HV0
          have hc1 := LC1.out _ _ L2.out
          obtain ⟨hb0, hb1, hb2⟩ := LB.out _ _ _ L2.out
          obtain ⟨c2, hc2⟩ : ∃ c, (lnB F F.s.size k)[k]? = some c := ⟨_, lnB_get HKF.out⟩
          have HC2 := Lib.hid hc2
          clear hc2
          obtain ⟨wd, rfl⟩ : ∃ x : World, x = wc := ⟨_, rfl⟩
          go_upto_region 9 with fail
          go_region_law (go_simp; go_at_call 19; refine (ZO.out _).mono ?_; rintro e w3 ⟨rfl, kz⟩; have L3 := L2.out.no (w' := w3) (Kp.trans ((Kp.refl No _).drew) kz); have d0 := LC1.out _ _ L3; have df : w3.frozen? ⟨g2, k, none⟩ = false := L3.ln.free k; have dg : w3.cell? ⟨g2, k, none⟩ = some (.bool c2) := L3.ln.get HC2.out; have L3 := Lib.hid L3; clear kz)
          all_goals
            go_wp2_with fail
            go_roundg (n + 1 - (k + 1))
            case measure => omega
            case rel => exact ⟨k + 1, V2, rfl, by go_num, by omega, (L3.out.put2 HKF.out D2.out zb HZB.out).no (Kp.refl _ _)⟩
      · obtain rfl : n = k := by omega
        have hd0 : ¬ (n : Int) < (n : Int) := by omega
        have PL := LS.out
        rw [HNF.out] at PL
        have OG := Lib.hid (show ∀ (i : Nat) v, Vs[i]? = some v → ∀ g, (slv v).ownBlock = some g → g ≠ g3 from fun i v hv g hg => by
          have := (PL.nr.rd i v (by have := (List.getElem?_eq_some_iff.1 hv).1; rw [PL.nr.len] at this; exact this) hv).2 g hg
          have := G3.out; omega)
        have P0 := Lib.hid PL.pl
        have K0 := Lib.hid (show Kp No w wr from PL.bx.kp)
        have DD := D.out; have GG := G.out
        have D3 := Lib.hid (show p ≠ g3 ∧ g1 ≠ g3 ∧ g2 ≠ g3 ∧ w.heap.size ≤ g3 by omega)
        have HSF := Lib.hid (show F.s.size = s.size by rw [HF.out])
        clear hlt PL DD GG hb2 LS HRT HRF
        go_wp2_with fail
        obtain ⟨we, rfl⟩ : ∃ x : World, x = wr := ⟨_, rfl⟩
        go_loopg [74] (nB + 1) (fun g2_ ii wx => ∃ j : Nat, g2_ = nB + 1 - j ∧ ii = .int .i64 j ∧ j ≤ nB ∧ PlW F fr (blkB F.s.size (B.take j)) p g1 g2 g3 Vs wx ∧ Kp No w wx)
        case atStart => exact ⟨0, rfl, rfl, by omega, by rw [List.take_zero]; exact P0.out, K0.out⟩
        case round =>
          obtain ⟨j, hgj, rfl, hj, pl, kp⟩ := hrel
          have PL := Lib.hid pl; have KP := Lib.hid kp
          clear pl kp P0 K0
          by_cases hlt : j < nB
          · have hltI : (j : Int) < (nB : Int) := by omega
            have hwj : IntKind.i64.wrap ((j : Int) + 1) = (j : Int) + 1 := IntWalk.i64_in _ (by omega)
            obtain ⟨x, hx⟩ : ∃ x, B[j]? = some x := ⟨_, List.getElem?_eq_getElem (by rw [← HNB.out]; exact hlt)⟩
            rcases HBr.out with ⟨_, he⟩ | ⟨g, o, cap', hv, _⟩
            · have := HNB.out; rw [he, List.length_nil] at this; omega
            simp only [Value.slice.injEq] at hv
            obtain ⟨rfl, hzz, rfl⟩ := hv
            clear hzz
            have hcx := (HBr.out.kpNo KP.out).intAt hx
            have HX := Lib.hid hx
            clear hx hlt
            by_cases hr : 0 ≤ x ∧ x < n
            · obtain ⟨h0, h1⟩ := hr
              obtain ⟨b, rfl⟩ : ∃ b : Nat, x = b := ⟨x.toNat, by omega⟩
              have hb : b < n := by omega
              have hc2 : wr.cell? ⟨p, 2, none⟩ = some (.slice (some ⟨g3, 0, none⟩) n n) := by have := PL.out.c2; rwa [← HNF.out] at this
              obtain ⟨c0, hc0⟩ : ∃ c, (blkB F.s.size (B.take j))[b]? = some c := ⟨_, blkB_get (by rw [← HNF.out]; exact hb)⟩
              have hcb : wr.cell? ⟨g3, b, none⟩ = some (.bool c0) := PL.out.bk.get hc0
              have hcf : wr.frozen? ⟨g3, b, none⟩ = false := PL.out.bk.free b
              have HBI := Lib.hid (blkB_in HX.out (n := F.s.size) (by rw [← HNF.out]; exact hb))
              have P2 := Lib.hid (PL.out.put3 OG.out ⟨D3.out.1, D3.out.2.1, D3.out.2.2.1⟩ b)
              clear hc0 hb
              go_wp2_with fail
              go_roundg (nB + 1 - (j + 1))
              case measure => omega
              case rel => exact ⟨j + 1, rfl, by go_num, by omega, by rw [HBI.out]; exact P2.out, KP.out.setCell (p := ⟨g3, b, none⟩) (fun h => absurd D3.out.2.2.2 (by show ¬ w.heap.size ≤ g3; simpa using h)) _⟩
            · have HBO := Lib.hid (blkB_out HX.out (n := F.s.size) (by rw [← HNF.out]; omega))
              by_cases h0 : 0 ≤ x
              · have h1 : ¬ x < (n : Int) := fun h => hr ⟨h0, h⟩
                clear hr
                go_wp2_with fail
                go_roundg (nB + 1 - (j + 1))
                case measure => omega
                case rel => exact ⟨j + 1, rfl, by go_num, by omega, by rw [HBO.out]; exact PL.out, KP.out⟩
              · clear hr
                go_wp2_with fail
                go_roundg (nB + 1 - (j + 1))
                case measure => omega
                case rel => exact ⟨j + 1, rfl, by go_num, by omega, by rw [HBO.out]; exact PL.out, KP.out⟩
          · obtain rfl : j = nB := by omega
            have hd1 : ¬ (j : Int) < (j : Int) := by omega
            have HE := Lib.hid (show B.take j = B by rw [HNB.out, List.take_length])
            clear hlt
            go_wp2_with fail
            go_ret2
            exact ⟨p, rfl, ⟨g1, g2, g3, Vs, by have := PL.out; rw [HE.out, HF.out] at this; exact this⟩, KP.out⟩
end Go.Proofs.YtmipnicdlldjnaaGreatDoor

namespace Go.Proofs.YtmipnicdlldjnaaGreatDoor
set_option linter.unusedVariables false
set_option linter.unusedSimpArgs false
open Go.RowKit

noncomputable def stepsP (f : Flr) (fr : Nat) (B : List Int) (u : Nat) : List Nat := if u ≠ fr ∧ kdS f.s u ≠ 2 then [] else (nearP f u).filter fun (c : Nat) => !decide ((c : Int) ∈ B)
noncomputable def stepsTo (f : Flr) (B : List Int) (u j : Nat) : List Nat := ((nearP f u).take j).filter fun (c : Nat) => !decide ((c : Int) ∈ B)
theorem stepsTo_in {f : Flr} {B : List Int} {u j c : Nat} (h : (nearP f u)[j]? = some c) (hk : ¬ (c : Int) ∈ B) : stepsTo f B u (j + 1) = stepsTo f B u j ++ [c] := by
  unfold stepsTo; rw [List.take_add_one, h, List.filter_append]; simp [hk]
theorem stepsTo_out {f : Flr} {B : List Int} {u j c : Nat} (h : (nearP f u)[j]? = some c) (hk : (c : Int) ∈ B) : stepsTo f B u (j + 1) = stepsTo f B u j := by
  unfold stepsTo; rw [List.take_add_one, h, List.filter_append]; simp [hk]
theorem stepsTo_len (f : Flr) (B : List Int) (u j : Nat) : (stepsTo f B u j).length ≤ j := Nat.le_trans (List.length_filter_le _ _) (List.length_take_le _ _)
theorem near_len4 (f : Flr) (c : Int) : (nearP f c).length ≤ 4 := by
  unfold nearP
  split
  · exact Nat.le_trans (List.length_filter_le _ _) (besideP_len _ _ _)
  · simp
theorem near_sz {f : Flr} (r : RightP f) {x y : Nat} (hx : x < f.s.size) (h : y ∈ nearP f x) : y < f.s.size := by
  unfold nearP at h
  split at h
  · have hm := (List.mem_filter.1 h).1
    have hs : f.s.size = f.W.toNat * f.H.toNat := by
      have h1 := r.len; have h2 := r.w1; have h3 := r.h1
      rw [← Int.toNat_of_nonneg (show 0 ≤ f.W by omega), ← Int.toNat_of_nonneg (show 0 ≤ f.H by omega)] at h1
      exact_mod_cast h1
    rw [hs]
    exact beside_lt (by have := r.w1; omega) (by rw [← hs]; simpa using hx) hm
  · simp at h

set_option maxHeartbeats 1000000 in
set_option maxRecDepth 100000 in
theorem ptsteps_any {f : Flr} {fr p g1 g2 g3 : Nat} {B : List Int} {Vs : List SlC} {w : World} (r : RightP f) (h : PlW f fr (blkB f.s.size B) p g1 g2 g3 Vs w) (u : Nat) (hu : u < f.s.size) :
    Calls Tryz.prog 61 #[.pointer (some ⟨p, 0, none⟩), .int .i64 (u : Int)] w fun e w' => ∃ v, e = .returned v ∧ NewS IK 3 w w' v (ints (stepsP f fr B u)) := by
  have hs256 : f.s.size ≤ 256 := (r).s256
  obtain ⟨n, hn⟩ : ∃ n, n = f.s.size := ⟨_, rfl⟩
  obtain ⟨N, hN⟩ : ∃ N, N = stepsP f fr B u := ⟨_, rfl⟩
  rw [← hN]
  unfold stepsP at hN
  have hc0 := h.c0; have hc1 := h.c1; have hc2 := h.c2; have hc3 := h.c3
  rw [← hn] at hc0 hc1 hc2 hs256
  have hun : u < n := by omega
  have huI : (u : Int) < (n : Int) := by omega
  obtain ⟨lb, hlb⟩ : ∃ b, b = decide (kdS f.s u = 2) := ⟨_, rfl⟩
  have hl := h.ln.get (lnB_get hu)
  rw [show decide (u < f.s.size ∧ kdS f.s u = 2) = lb by rw [hlb]; simp [hu]] at hl
  obtain ⟨db, hdb⟩ : ∃ b, b = ((u : Int) != (fr : Int)) := ⟨_, rfl⟩
  have hdbI := hdb.symm
  have H := Lib.hid h; have HN0 := Lib.hid hn; have HR := Lib.hid r
  by_cases hx : u ≠ fr ∧ kdS f.s u ≠ 2
  · rw [if_pos hx] at hN
    obtain rfl : lb = false := by rw [hlb]; simp [hx.2]
    obtain rfl : db = true := by rw [hdb]; simp; omega
    have HN := Lib.hid hN
    clear h hn hN hx hlb hdb r hu
    go_enter Tryz.func61, Tryz.ntmps61
    go_wp2_with fail
    go_ret
    exact ⟨_, rfl, by rw [HN.out]; exact NewS.nil _ _ _⟩
  · rw [if_neg hx] at hN
    have hor : db = true → lb = true := fun e => by
      rw [hdb] at e; simp at e
      have : u ≠ fr := by omega
      rw [hlb]; simp
      exact Classical.byContradiction fun h2 => hx ⟨this, h2⟩
    have hN2 : N = stepsTo f B u (nearP f u).length := by rw [hN]; unfold stepsTo; rw [List.take_length]
    have hrd := fun v hv => h.rd u v hv
    obtain ⟨⟨A, m, q⟩, hv⟩ : ∃ v, Vs[u]? = some v := ⟨_, List.getElem?_eq_getElem (by rw [h.len]; exact hu)⟩
    have hr := h.rd u _ hv
    have hcv := h.nr.get hv
    unfold slv at hr hcv
    simp only at hr hcv
    obtain ⟨A', q', hsh⟩ := hr.shape
    simp only [Value.slice.injEq] at hsh
    obtain ⟨rfl, hm, rfl⟩ := hsh
    rw [ints_len] at hm
    have hm4 : m ≤ 4 := by rw [hm]; exact near_len4 f u
    have HRd := Lib.hid hr; have HN := Lib.hid hN2; have HM := Lib.hid hm; have HU := Lib.hid hu
    clear hx hlb hdb hrd hN hN2 hr hm h hn hv r hu
    have hcase : (db = true ∧ lb = true) ∨ db = false := by
      cases db with
      | true => exact .inl ⟨rfl, hor rfl⟩
      | false => exact .inr rfl
    clear hor
    rcases hcase with ⟨rfl, rfl⟩ | rfl
    all_goals
      go_enter Tryz.func61, Tryz.ntmps61
      go_wp2_with fail
      go_loopg [5, 32] (m + 1) (fun g_ v ii wx => ∃ (j k : Nat) (A : Option Addr) (q : Nat), g_ = m + 1 - j ∧ ii = .int .i64 j ∧ j ≤ m ∧ v = .slice A k q ∧ k = (stepsTo f B u j).length ∧ NewS IK 3 w wx v (ints (stepsTo f B u j)))
      case atStart => exact ⟨0, 0, none, 0, rfl, rfl, by omega, rfl, rfl, NewS.nil _ _ _⟩
      case round =>
        obtain ⟨j, k, A2, q2, hgk, rfl, hj, rfl, hk, ns⟩ := hrel
        have hk4 : k ≤ 4 := by rw [hk]; exact Nat.le_trans (stepsTo_len f B u j) (by omega)
        have HK := Lib.hid hk; have NS := Lib.hid ns
        clear hk ns hc0 hc1 hc3 hcv hl
        by_cases hlt : j < m
        · have hltI : (j : Int) < (m : Int) := by omega
          have hwj : IntKind.i64.wrap ((j : Int) + 1) = (j : Int) + 1 := IntWalk.i64_in _ (by omega)
          obtain ⟨x, hx⟩ : ∃ x, (nearP f u)[j]? = some x := ⟨_, List.getElem?_eq_getElem (by rw [← HM.out]; exact hlt)⟩
          have hxs := near_sz HR.out HU.out (List.mem_of_getElem? hx)
          have hxn : x < n := by rw [HN0.out]; exact hxs
          have hxI : (x : Int) < (n : Int) := by omega
          rcases HRd.out with ⟨_, he⟩ | ⟨g, o, cap', hv, _⟩
          · have h1 := HM.out
            have := congrArg List.length he
            rw [ints_len, List.length_nil] at this
            omega
          simp only [Value.slice.injEq] at hv
          obtain ⟨rfl, hzz, rfl⟩ := hv
          clear hzz
          have hcx := (HRd.out.kpNo NS.out.kp).intAt (ints_get hx)
          have P2 := H.out.no NS.out.kp
          have hd2 : wr.cell? ⟨p, 2, none⟩ = some (.slice (some ⟨g3, 0, none⟩) n n) := by have := P2.c2; rwa [← HN0.out] at this
          have hbb := P2.bk.get (blkB_get hxs)
          obtain ⟨bb, hb⟩ : ∃ b, b = decide ((x : Int) ∈ B) := ⟨_, rfl⟩
          rw [← hb] at hbb
          cases bb with
          | true =>
            have HL := Lib.hid (stepsTo_out hx (by simpa using hb.symm))
            clear hx hxs hlt hb P2 hc2
            go_wp2_with fail
            go_roundg (m + 1 - (j + 1))
            case measure => omega
            case rel => exact ⟨j + 1, k, A2, q2, rfl, by go_num, by omega, rfl, by rw [HL.out]; exact HK.out, by rw [HL.out]; exact NS.out⟩
          | false =>
            have HL := Lib.hid (stepsTo_in hx (by simpa using hb.symm))
            clear hx hxs hlt hb P2 hc2
            go_wp2_with (at_builtin; refine wpl_snocI rfl (.tmp 44) (.tmp 46) rfl rfl rfl rfl NS.out HK.out (by omega) ?_; intro A3 q3 w4 n4 k4 _; have N4 := Lib.hid n4; clear n4 k4 hcx hd2 hbb)
            go_roundg (m + 1 - (j + 1))
            case measure => omega
            case rel => exact ⟨j + 1, k + 1, A3, q3, rfl, by go_num, by omega, rfl, by rw [HL.out, List.length_append, ← HK.out]; rfl, by rw [HL.out]; exact N4.out⟩
        · obtain rfl : j = m := by omega
          have hd0 : ¬ (j : Int) < (j : Int) := by omega
          have HL := Lib.hid (show N = stepsTo f B u j by rw [HN.out, ← HM.out])
          clear hlt
          go_wp2_with fail
          go_ret
          exact ⟨_, rfl, by rw [HL.out]; exact NS.out⟩
end Go.Proofs.YtmipnicdlldjnaaGreatDoor

namespace Go.Proofs.YtmipnicdlldjnaaGreatDoor
set_option linter.unusedVariables false
set_option linter.unusedSimpArgs false
open Go.RowKit

structure Ent where
  k : Int
  v : Int
  q : Nat
deriving DecidableEq
def Ent.lt (a b : Ent) : Prop := a.k < b.k ∨ (a.k = b.k ∧ a.q < b.q)
instance (a b : Ent) : Decidable (a.lt b) := inferInstanceAs (Decidable (_ ∨ _))
theorem Ent.lt_asymm {a b : Ent} (h : a.lt b) : ¬ b.lt a := by unfold Ent.lt at *; omega
theorem Ent.nlt_trans {a b c : Ent} (h : ¬ a.lt b) (g : ¬ b.lt c) : ¬ a.lt c := by unfold Ent.lt at *; omega
theorem Ent.nlt_of {a b c : Ent} (h : ¬ a.lt b) (g : c.lt b) : ¬ a.lt c := by unfold Ent.lt at *; omega
theorem Ent.nlt_irrefl (a : Ent) : ¬ a.lt a := by unfold Ent.lt; omega

def swapL {α : Type} (E : List α) (i j : Nat) (a b : α) : List α := (E.set i b).set j a
section
variable {α : Type} {E : List α} {i p : Nat} {a b : α}
theorem swapL_len : (swapL E i p a b).length = E.length := by simp [swapL]
theorem swapL_get (ha : E[i]? = some a) (hb : E[p]? = some b) (j : Nat) : (swapL E i p a b)[j]? = if j = p then some a else if j = i then some b else E[j]? := by
  unfold swapL
  have h1 := (List.getElem?_eq_some_iff.1 ha).1
  have h2 := (List.getElem?_eq_some_iff.1 hb).1
  rw [List.getElem?_set, List.getElem?_set]
  by_cases e1 : p = j
  · subst e1; simp [h2]
  · rw [if_neg e1, if_neg (Ne.symm e1)]
    by_cases e2 : i = j
    · subst e2; simp [h1]
    · rw [if_neg e2, if_neg (Ne.symm e2)]
theorem swapL_perm (ha : E[i]? = some a) (hb : E[p]? = some b) : (swapL E i p a b).Perm E := by
  have h1 := (List.getElem?_eq_some_iff.1 ha)
  have h2 := (List.getElem?_eq_some_iff.1 hb)
  obtain ⟨hi, rfl⟩ := h1
  obtain ⟨hp, rfl⟩ := h2
  have := Array.swap_perm (xs := E.toArray) (i := i) (j := p) (by simpa using hi) (by simpa using hp)
  rw [List.swap_toArray] at this
  have := Array.perm_iff_toList_perm.1 this
  simpa [swapL] using this
end

def HeapO (E : List Ent) : Prop := ∀ (j : Nat) a b, 0 < j → E[j]? = some a → E[(j - 1) / 2]? = some b → ¬ a.lt b
structure UpI (E : List Ent) (i : Nat) : Prop where
  o : ∀ (j : Nat) a b, 0 < j → j ≠ i → E[j]? = some a → E[(j - 1) / 2]? = some b → ¬ a.lt b
  g : ∀ (j : Nat) a b, 0 < j → 0 < i → (j - 1) / 2 = i → E[j]? = some a → E[(i - 1) / 2]? = some b → ¬ a.lt b
theorem UpI.done {E : List Ent} {i : Nat} (h : UpI E i) (hs : ∀ a b, 0 < i → E[i]? = some a → E[(i - 1) / 2]? = some b → ¬ a.lt b) : HeapO E := fun j a b hj ha hb => by
  by_cases e : j = i
  · subst e; exact hs a b hj ha hb
  · exact h.o j a b hj e ha hb
theorem UpI.step {E : List Ent} {i : Nat} {a b : Ent} (h : UpI E i) (hi : 0 < i) (ha : E[i]? = some a) (hb : E[(i - 1) / 2]? = some b) (hl : a.lt b) : UpI (swapL E i ((i - 1) / 2) a b) ((i - 1) / 2) := by
  obtain ⟨p, hp⟩ : ∃ p, p = (i - 1) / 2 := ⟨_, rfl⟩
  rw [← hp] at hb ⊢
  have hpi : p < i := by omega
  have hg := fun j => swapL_get (E := E) (i := i) (p := p) ha hb j
  refine ⟨fun j x y hj hjp hx hy => ?_, fun j x y hj hp0 hjp hx hy => ?_⟩
  · rw [hg] at hx hy
    rw [if_neg hjp] at hx
    by_cases e : j = i
    · subst e
      rw [if_pos rfl] at hx
      rw [← hp, if_pos rfl] at hy
      cases hx; cases hy
      exact Ent.lt_asymm hl
    · rw [if_neg e] at hx
      by_cases e1 : (j - 1) / 2 = p
      · rw [if_pos e1] at hy
        cases hy
        exact Ent.nlt_of (h.o j x b hj e hx (by rw [e1]; exact hb)) hl
      · rw [if_neg e1] at hy
        by_cases e2 : (j - 1) / 2 = i
        · rw [if_pos e2] at hy
          cases hy
          exact h.g j x b hj hi e2 hx (by rw [← hp]; exact hb)
        · rw [if_neg e2] at hy
          exact h.o j x y hj e hx hy
  · rw [hg] at hx hy
    rw [if_neg (by omega), if_neg (by omega)] at hy
    have hbc := h.o p b y hp0 (by omega) hb hy
    rw [if_neg (by omega)] at hx
    by_cases e : j = i
    · rw [if_pos e] at hx; cases hx; exact hbc
    · rw [if_neg e] at hx
      exact Ent.nlt_trans (h.o j x b hj e hx (by rw [hjp]; exact hb)) hbc
theorem UpI.push {E : List Ent} (h : HeapO E) (x : Ent) : UpI (E ++ [x]) E.length := by
  refine ⟨fun j a b hj hne ha hb => ?_, fun j a b hj hi hp ha hb => ?_⟩
  · have hjl := (List.getElem?_eq_some_iff.1 ha).1
    simp at hjl
    rw [List.getElem?_append_left (by omega)] at ha hb
    exact h j a b hj ha hb
  · have hjl := (List.getElem?_eq_some_iff.1 ha).1
    simp at hjl; omega

structure DnI (E : List Ent) (i : Nat) : Prop where
  o : ∀ (j : Nat) a b, 0 < j → (j - 1) / 2 ≠ i → E[j]? = some a → E[(j - 1) / 2]? = some b → ¬ a.lt b
  g : ∀ (j : Nat) a b, 0 < j → 0 < i → (j - 1) / 2 = i → E[j]? = some a → E[(i - 1) / 2]? = some b → ¬ a.lt b
theorem DnI.done {E : List Ent} {i : Nat} (h : DnI E i) (hs : ∀ (j : Nat) a b, 0 < j → (j - 1) / 2 = i → E[j]? = some a → E[i]? = some b → ¬ a.lt b) : HeapO E := fun j a b hj ha hb => by
  by_cases e : (j - 1) / 2 = i
  · exact hs j a b hj e ha (by rw [← e]; exact hb)
  · exact h.o j a b hj e ha hb
theorem DnI.step {E : List Ent} {i l : Nat} {a b : Ent} (h : DnI E i) (hl0 : 0 < l) (hli : (l - 1) / 2 = i) (ha : E[i]? = some a) (hb : E[l]? = some b) (hlt : b.lt a) (hmin : ∀ (j : Nat) x, 0 < j → (j - 1) / 2 = i → E[j]? = some x → ¬ x.lt b) :
    DnI (swapL E i l a b) l := by
  have hg := fun j => swapL_get (E := E) (i := i) (p := l) ha hb j
  have hil : i < l := by omega
  refine ⟨fun j x y hj hjp hx hy => ?_, fun j x y hj hp0 hjp hx hy => ?_⟩
  · rw [hg] at hx hy
    rw [if_neg hjp] at hy
    by_cases e : j = l
    · subst e
      rw [if_pos rfl] at hx
      rw [if_pos hli] at hy
      cases hx; cases hy
      exact Ent.lt_asymm hlt
    · rw [if_neg e] at hx
      by_cases e1 : j = i
      · rw [if_pos e1] at hx; cases hx
        rw [if_neg (by omega)] at hy
        exact h.g l b y hl0 (by omega) hli hb (by rw [← e1]; exact hy)
      · rw [if_neg e1] at hx
        by_cases e2 : (j - 1) / 2 = i
        · rw [if_pos e2] at hy; cases hy
          exact hmin j x hj e2 hx
        · rw [if_neg e2] at hy
          exact h.o j x y hj e2 hx hy
  · rw [hg] at hx hy
    rw [if_neg (by omega), if_pos hli] at hy
    cases hy
    rw [if_neg (by omega), if_neg (by omega)] at hx
    exact h.o j x b hj (by omega) hx (by rw [hjp]; exact hb)
theorem HeapO.min {E : List Ent} (h : HeapO E) {a : Ent} (ha : E[0]? = some a) : ∀ (j : Nat) x, E[j]? = some x → ¬ x.lt a := by
  intro j
  induction j using Nat.strongRecOn with
  | _ j ih =>
    intro x hx
    by_cases e : j = 0
    · subst e; rw [ha] at hx; cases hx; exact Ent.nlt_irrefl _
    · have hjl := (List.getElem?_eq_some_iff.1 hx).1
      obtain ⟨y, hy⟩ : ∃ y, E[(j - 1) / 2]? = some y := ⟨_, List.getElem?_eq_getElem (by omega)⟩
      exact Ent.nlt_trans (h j x y (by omega) hx hy) (ih ((j - 1) / 2) (by omega) y hy)
theorem HeapO.nil : HeapO [] := fun j a b hj ha => by simp at ha
/-- The last one goes to the head, and is taken off: what is left may be out of order there alone. -/
theorem HeapO.cut {E : List Ent} {a b : Ent} {n : Nat} (h : HeapO E) (hn : E.length = n + 1) (ha : E[0]? = some a) (hb : E[n]? = some b) : DnI ((swapL E 0 n a b).take n) 0 ∧ E.Perm (a :: (swapL E 0 n a b).take n) := by
  have hg := fun j => swapL_get (E := E) (i := 0) (p := n) ha hb j
  have hs : swapL E 0 n a b = (swapL E 0 n a b).take n ++ [a] := by
    have h1 : (swapL E 0 n a b)[n]? = some a := by rw [hg, if_pos rfl]
    have h2 := List.take_append_drop n (swapL E 0 n a b)
    have h3 : (swapL E 0 n a b).drop n = [a] := by
      rw [List.drop_eq_getElem_cons (by rw [swapL_len, hn]; omega), List.drop_eq_nil_of_le (by rw [swapL_len, hn]; omega)]
      have := List.getElem?_eq_some_iff.1 h1
      rw [this.2]
    rw [h3] at h2
    exact h2.symm
  refine ⟨⟨fun j x y hj hjp hx hy => ?_, fun j x y hj h0 => by omega⟩, ?_⟩
  · rw [List.getElem?_take] at hx hy
    split at hx
    · split at hy
      · rw [hg] at hx hy
        rw [if_neg (by omega), if_neg (by omega)] at hx hy
        exact h j x y hj hx hy
      · cases hy
    · cases hx
  · have := (swapL_perm ha hb).symm
    rw [hs] at this
    exact this.trans (List.perm_append_singleton _ _)
/-- Which of some is least. -/
structure LstI (E : List Ent) (i l : Nat) (cs : List Nat) : Prop where
  at_ : l = i ∨ (0 < l ∧ (l - 1) / 2 = i ∧ ∀ a b, E[i]? = some a → E[l]? = some b → b.lt a)
  lt : l < E.length
  min : ∀ c ∈ cs, ∀ x y, E[c]? = some x → E[l]? = some y → ¬ x.lt y
end Go.Proofs.YtmipnicdlldjnaaGreatDoor
