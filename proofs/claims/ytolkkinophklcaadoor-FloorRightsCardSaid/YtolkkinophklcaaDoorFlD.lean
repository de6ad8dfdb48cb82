/- floor.docks. -/
import Derived.Test.YtolkkinophklcaaDoorFlDp
import Derived.Test.YtolkkinophklcaaDoorFlB
import Derived.Deep.LoopGhost
namespace Go.Proofs.YtolkkinophklcaaDoor
set_option linter.unusedVariables false
set_option linter.unusedSimpArgs false
open Go.RowKit

def arr8 (a : List Nat) : Array Value := (a.map fun (x : Nat) => Value.int .i64 (x : Int)).toArray
theorem arr8_get {a : List Nat} {r x : Nat} (h : a[r]? = some x) : (arr8 a)[r]? = some (.int .i64 (x : Int)) := by unfold arr8; simp [h]
theorem arr8_set (a : List Nat) (r x : Nat) : (arr8 a).setIfInBounds r (.int .i64 (x : Int)) = arr8 (a.set r x) := by
  unfold arr8
  rw [List.setIfInBounds_toArray, List.map_set]
structure DkW (f : Flr) (bf ba : Nat) (a : List Nat) (w0 w : World) : Prop where
  box : w.heap[bf]? = some (.cells #[.int .i64 f.W, .int .i64 f.H, .string f.s] 24 (0, 0))
  arr : w.heap[ba]? = some (.cells (arr8 a) 53 (0, 0))
  kp : Kp No w0 w
  lt : w0.heap.size ≤ bf ∧ w0.heap.size ≤ ba ∧ bf ≠ ba
theorem DkW.set {f : Flr} {bf ba : Nat} {a : List Nat} {w0 w : World} (h : DkW f bf ba a w0 w) (r x : Nat) : DkW f bf ba (a.set r x) w0 (w.setCell ⟨ba, r, none⟩ (.int .i64 (x : Int))) :=
  ⟨blk_far h.box h.lt.2.2 _, by rw [← arr8_set]; exact blk_set h.arr r _, h.kp.setCell (fun e => by have e : ba < w0.heap.size := e; have := h.lt; omega) _, h.lt⟩
theorem DkW.no {f : Flr} {bf ba : Nat} {a : List Nat} {w0 w w' : World} (h : DkW f bf ba a w0 w) (hk : Kp No w w') : DkW f bf ba a w0 w' := ⟨hk.blk h.box (no_no _), hk.blk h.arr (no_no _), h.kp.no hk, h.lt⟩
theorem ints_snocD (L : List Nat) (x : Nat) : ints (L ++ (some (x + 1)).toList.map (· - 1)) = ints L ++ [(x : Int)] := by simp [ints]
def DocksR (s : ByteArray) (w : World) (e : Ending) (w' : World) : Prop :=
  (∃ ds v, e = .returned (.tuple #[v, .bool true]) ∧ DocksL s ds ∧ NewS IK 3 w w' v (ints ds)) ∨ (e = .returned (.tuple #[.slice none 0 0, .bool false]) ∧ (¬ ∃ ds, DocksL s ds) ∧ Kp No w w')

set_option maxHeartbeats 2000000 in
set_option maxRecDepth 100000 in
theorem docks_any (f : Flr) (hs : f.s.size ≤ 2000) (w : World) : Calls Tryd.prog 35 #[f.val] w (DocksR f.s w) := by
  unfold Flr.val
  obtain ⟨n, hn⟩ : ∃ n, n = f.s.size := ⟨_, rfl⟩
  have hnI : ((f.s.size : Nat) : Int) = (n : Int) := by omega
  have HN := Lib.hid hn
  have hn2 : n ≤ 2000 := by omega
  clear hs hn
  go_enter Tryd.func35, Tryd.ntmps35
  go_wp2
  obtain ⟨bf, hbf⟩ : ∃ bf, bf = w.heap.size := ⟨_, rfl⟩
  obtain ⟨ba, hba⟩ : ∃ ba, ba = w.heap.size + 1 := ⟨_, rfl⟩
  obtain ⟨w0, hw0⟩ : ∃ w0, w0 = (w.alloc (.cells #[.int .i64 f.W, .int .i64 f.H, .string f.s] 24)).alloc (.cells #[.int .i64 0, .int .i64 0, .int .i64 0, .int .i64 0, .int .i64 0, .int .i64 0, .int .i64 0, .int .i64 0] 53) := ⟨_, rfl⟩
  have D0 : Hid (DkW f bf ba (List.replicate 8 0) w w0) := Lib.hid (by
    rw [hw0, hbf, hba]
    refine ⟨blk_alloc (blk_new w _) _, ?_, ((Kp.refl _ _).alloc _).alloc _, by omega, by omega, by omega⟩
    have := blk_new (w.alloc (.cells #[.int .i64 f.W, .int .i64 f.H, .string f.s] 24)) (.cells #[.int .i64 0, .int .i64 0, .int .i64 0, .int .i64 0, .int .i64 0, .int .i64 0, .int .i64 0, .int .i64 0] 53)
    show (_ : World).heap[_]? = some (Obj.cells #[.int .i64 0, .int .i64 0, .int .i64 0, .int .i64 0, .int .i64 0, .int .i64 0, .int .i64 0, .int .i64 0] 53 (0, 0))
    simpa using this)
  rw [← hba, ← hbf, ← hw0]
  clear hbf hba hw0
  go_loopg [5, 14] (n + 1) (fun g2 c kk wr => ∃ (k m : Nat) (a : List Nat), g2 = n + 1 - k ∧ kk = .int .i64 k ∧ c = .int .i64 m ∧ k ≤ n ∧ DkW f bf ba a w wr ∧ DkI f.s k a m)
  case atStart => exact ⟨0, 0, _, rfl, rfl, rfl, by omega, D0.out, DkI.start _⟩
  case round =>
    obtain ⟨k, m, a, hgk, rfl, rfl, hk, dw, di⟩ := hrel
    have hm8 := di.n8
    have DW := Lib.hid dw; have DI := Lib.hid di
    clear dw di
    by_cases hlt : k < n
    · have hltI : (k : Int) < (n : Int) := by omega
      have hwk : IntKind.i64.wrap ((k : Int) + 1) = (k : Int) + 1 := IntWalk.i64_in _ (by omega)
      have hwm : IntKind.i64.wrap ((m : Int) + 1) = (m : Int) + 1 := IntWalk.i64_in _ (by omega)
      have hks : k < f.s.size := by have := HN.out; omega
      have hksI : (k : Int) < ((f.s.size : Nat) : Int) := by omega
      have hbt := bt_at f.s k
      have hb2 : wr.cell? ⟨bf, 2, none⟩ = some (.string f.s) := blk_cell DW.out.box 2
      obtain ⟨K, hK⟩ : ∃ K, K = kindB (bt f.s k) := ⟨_, rfl⟩
      have hkd := fun w => kind_any (bt f.s k) w
      rw [← hK] at hkd
      have HK := Lib.hid (show K = kdS f.s k from hK)
      have HKD := Lib.hid hkd
      clear hkd
      by_cases h3 : K = 3
      · have h3b : ((K : Int) != 3) = false := by simp [h3]
        have hdk := kd_dock (hK.symm.trans h3)
        have hkk : kdS f.s k = 3 := by rw [← HK.out, h3]
        obtain ⟨B, hB⟩ : ∃ B, B = bt f.s k := ⟨_, rfl⟩
        rw [← hB] at hbt HKD hdk
        obtain ⟨r, hr⟩ : ∃ r, B = 48 + r := ⟨B - 48, by omega⟩
        have hsub : IntKind.u8.wrap ((B : Int) - 48) = (r : Int) := by rw [IntWalk.u8_in _ (by omega)]; omega
        have hr8 : (r : Int) < 8 := by omega
        have hra : r < a.length := by rw [DI.out.len]; omega
        obtain ⟨x, hx⟩ : ∃ x, a[r]? = some x := ⟨_, List.getElem?_eq_getElem hra⟩
        have hcx : wr.cell? ⟨ba, r, none⟩ = some (.int .i64 (x : Int)) := (blk_cell DW.out.arr r).trans (arr8_get hx)
        have hcf : wr.frozen? ⟨ba, r, none⟩ = false := blk_free DW.out.arr r
        rcases x with _ | x
        · have D2 := Lib.hid (DW.out.set r (k + 1))
          have I2 := Lib.hid (DI.out.take hkk (by rw [← hB, hr]) hx)
          clear hx hra hB hr hdk hkk h3 hK hlt hks
          go_wp2_with (go_at_call 39; refine (HKD.out _).mono ?_; rintro e wz ⟨rfl, rfl⟩)
          go_roundg (n + 1 - (k + 1))
          case measure => omega
          case rel => exact ⟨k + 1, m + 1, _, rfl, by go_num, by go_num, by omega, D2.out, I2.out⟩
        · have hno := Lib.hid (DI.out.twice hks hkk (by rw [← hB, hr]) hx)
          have hx0 : (0 : Int) < ((x + 1 : Nat) : Int) := by omega
          clear hx hra hB hr hdk hkk h3 hK hlt hks
          go_wp2_with (go_at_call 39; refine (HKD.out _).mono ?_; rintro e wz ⟨rfl, rfl⟩)
          go_ret2
          exact .inr ⟨rfl, hno.out, DW.out.kp⟩
      · have h3b : ((K : Int) != 3) = true := by simp; omega
        have I2 := Lib.hid (DI.out.skip (by rw [← HK.out]; exact h3))
        clear h3 hK hlt hks
        go_wp2_with (go_at_call 39; refine (HKD.out _).mono ?_; rintro e wz ⟨rfl, rfl⟩)
        go_roundg (n + 1 - (k + 1))
        case measure => omega
        case rel => exact ⟨k + 1, m, a, rfl, by go_num, rfl, by omega, DW.out, I2.out⟩
    · obtain rfl : k = n := by omega
      have hd0 : ¬ (k : Int) < (k : Int) := by omega
      have DE := Lib.hid (show DkI f.s f.s.size a m by rw [← HN.out]; exact DI.out)
      have hm8I : (m : Int) ≤ 8 := by omega
      have hm0 : (0 : Int) ≤ (m : Int) := by omega
      clear hlt DI
      go_wp2
      obtain ⟨wo, rfl⟩ : ∃ wo : World, wo = wr := ⟨_, rfl⟩
      have KW := Lib.hid DW.out.kp
      have NS0 := Lib.hid (show NewS IK 3 w wo (.slice none 0 0) (ints ((a.take 0).map (· - 1))) from ⟨Own.nil _ _ _, by simp [Value.ownBlock], DW.out.kp⟩)
      have NB0 := Lib.hid (show ∀ g, (Value.slice none 0 0).ownBlock = some g → g ≠ ba by simp [Value.ownBlock])
      go_loopg [8, 42] (m + 1) (fun g2 v jj wx => ∃ j : Nat, g2 = m + 1 - j ∧ jj = .int .i64 j ∧ j ≤ m ∧ (∀ i, i < j → a[i]? ≠ some 0) ∧ NewS IK 3 w wx v (ints ((a.take j).map (· - 1))) ∧ DkW f bf ba a w wx ∧ (∀ g, v.ownBlock = some g → g ≠ ba ∧ g ≠ bf) ∧ (j = 0 → v = .slice none 0 0))
      case atStart => exact ⟨0, rfl, rfl, by omega, by simp, NS0.out, DW.out, by simp [Value.ownBlock], fun _ => rfl⟩
      case round =>
        obtain ⟨j, hgj, rfl, hj, hnz, ns, dw, nb, hz⟩ := hrel
        have hla : ((a.take j).map (· - 1)).length = j := by rw [List.length_map, List.length_take]; have := DE.out.len; omega
        have hj8 : j ≤ 8 := by omega
        by_cases hlt : j < m
        · have hltI : (j : Int) < (m : Int) := by omega
          have hwj : IntKind.i64.wrap ((j : Int) + 1) = (j : Int) + 1 := IntWalk.i64_in _ (by omega)
          have hra : j < a.length := by rw [DE.out.len]; omega
          obtain ⟨x, hx⟩ : ∃ x, a[j]? = some x := ⟨_, List.getElem?_eq_getElem hra⟩
          have hcx : wr.cell? ⟨ba, j, none⟩ = some (.int .i64 (x : Int)) := (blk_cell dw.arr j).trans (arr8_get hx)
          rcases x with _ | x
          · have hno := Lib.hid (DE.out.hole hlt hx)
            have KX := Lib.hid dw.kp
            clear ns dw nb hz hnz hla hx hra hlt
            go_wp2
            go_ret2
            exact .inr ⟨rfl, hno.out, KX.out⟩
          · obtain ⟨A3, q3, rfl⟩ := ns.own.rd.shape
            obtain ⟨T, hTe⟩ : ∃ T, T = (a.take j).map (· - 1) := ⟨_, rfl⟩
            obtain ⟨y, hy⟩ : ∃ y, y = x + 1 := ⟨_, rfl⟩
            rw [← hTe] at ns nb hz hla ⊢
            rw [← hy] at hcx
            rw [ints_len, hla] at ns nb hz ⊢
            have hxw : IntKind.i64.wrap ((y : Int) - 1) = (x : Int) := by
              have := (DE.out.sound j x hx).1
              have := HN.out
              rw [IntWalk.i64_in _ (by omega)]; omega
            have hxe : ((y : Int) == 0) = false := by simp; omega
            have HZ := Lib.hid (show ∀ i, i < j + 1 → a[i]? ≠ some 0 by
              intro i hi
              rcases Nat.lt_or_ge i j with h | h
              · exact hnz i h
              · obtain rfl : i = j := by omega
                rw [hx]; simp)
            have HT := Lib.hid (show ints ((a.take (j + 1)).map (· - 1)) = ints T ++ [(x : Int)] by
              rw [List.take_add_one, hx, List.map_append, hTe]; exact ints_snocD _ x)
            have NS := Lib.hid ns; have DX := Lib.hid dw; have NB := Lib.hid nb
            have HLA := Lib.hid hla
            clear ns dw nb hz hnz hla hx hra hlt hTe hy
            go_wp2_with (at_builtin; refine wpl_append elI rfl (.tmp 48) (.tmp 51) rfl rfl rfl (l := ints T) (m := [(x : Int)]) ?c1 ?c2 ?c3 ?c4 ?c5)
            case c1 => exact NS.out.own.alloc _
            case c2 => exact Rd.litAt IK 3 _ _ [(x : Int)] rfl (by unfold maxLen; simp) _ _ rfl rfl
            case c3 => show (ints _).length + 1 ≤ maxLen; rw [ints_len, HLA.out]; unfold maxLen; omega
            case c4 => show ((ints _).length + 1) * 8 ≤ _; rw [ints_len, HLA.out]; omega
            case c5 =>
              intro v' w' k1 k2 k3
              rw [← HT.out] at k1
              have q := NewS.app2 k1 k2 k3 ((Kp.refl No wr).alloc _) NS.out (Nat.le_succ _)
              have d1 := DX.out.no ((Kp.refl No wr).alloc (.cells #[.int .i64 (x : Int)] 3))
              have hs1 := lt_of_block DX.out.arr
              have hs2 := lt_of_block DX.out.box
              have d2 : DkW f bf ba a w w' := ⟨k2.blk d1.box (fun e => (NB.out _ e).2 rfl), k2.blk d1.arr (fun e => (NB.out _ e).1 rfl), q.kp, d1.lt⟩
              have n2 : ∀ g, v'.ownBlock = some g → g ≠ ba ∧ g ≠ bf := fun g hg => by
                rcases k3 g hg with e | e
                · exact NB.out g e
                · have e : wr.heap.size + 1 ≤ g := e; omega
              obtain ⟨A5, q5, rfl⟩ := k1.rd.shape
              have Q := Lib.hid q; have D2 := Lib.hid d2; have N2 := Lib.hid n2
              clear q d1 d2 n2 k1 k2 k3 hs1 hs2 hcx
              go_wp2
              go_roundg (m + 1 - (j + 1))
              case measure => omega
              case rel => exact ⟨j + 1, rfl, by go_num, by omega, HZ.out, Q.out, D2.out, N2.out, fun e => absurd e (by omega)⟩
        · obtain rfl : j = m := by omega
          have hd0 : ¬ (j : Int) < (j : Int) := by omega
          clear hlt
          by_cases hj0 : j = 0
          · subst hj0
            obtain rfl := hz rfl
            have KX := Lib.hid dw.kp
            have hno := Lib.hid DE.out.none
            clear ns dw nb hz hnz hla
            go_wp2
            go_ret2
            exact .inr ⟨rfl, hno.out, KX.out⟩
          · have hjp : (0 : Int) < (j : Int) := by omega
            have hjp2 : 0 < j := by omega
            have hjb : decide (0 < j) = true := by simp; omega
            have HDS := Lib.hid (DE.out.docks (by omega) hnz)
            obtain ⟨T, hTe⟩ : ∃ T, T = ints ((a.take j).map (· - 1)) := ⟨_, rfl⟩
            rw [← hTe] at ns
            have HTe := Lib.hid hTe
            have NS := Lib.hid ns
            clear ns dw nb hz hnz hla hj0 hTe
            obtain ⟨A3, q3, rfl⟩ := NS.out.own.rd.shape
            go_wp2
            go_ret2
            exact .inl ⟨_, _, rfl, HDS.out, by rw [← HTe.out]; exact NS.out⟩
end Go.Proofs.YtolkkinophklcaaDoor
