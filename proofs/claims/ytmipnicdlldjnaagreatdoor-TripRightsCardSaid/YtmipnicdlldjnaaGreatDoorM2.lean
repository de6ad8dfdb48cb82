/- floor.docks; Floors, plain: a search through the lanes. No function of the program; Maps with int keys: what a map holds, look-up, store, delete, len. No function of the program; Maps with int keys: delete, len; maps to bool as sets; floor.joined; floor.joined: the walk; floor.Right; Floors, plain: what is told of a floor; floor.is, Zone, Robots, Dock; A text's rows, plain; which rows may be; the floor of a text. No function of the program. No condition. -/
import Derived.Test.YtmipnicdlldjnaaGreatDoorM1
import Derived.Deep.LoopGhost
import Derived.Maps.RangeRun
import Derived.Lib.SplitLaws

namespace Go.Proofs.YtmipnicdlldjnaaGreatDoor
set_option linter.unusedVariables false
set_option linter.unusedSimpArgs false
open Go.RowKit

def arr8 (a : List Nat) : Array Value := (a.map fun (x : Nat) => Value.int .i64 (x : Int)).toArray
theorem arr8_get {a : List Nat} {r x : Nat} (h : a[r]? = some x) : (arr8 a)[r]? = some (.int .i64 (x : Int)) := by unfold arr8; simp [h]
theorem arr8_set (a : List Nat) (r x : Nat) : (arr8 a).setIfInBounds r (.int .i64 (x : Int)) = arr8 (a.set r x) := by
  unfold arr8
  rw [List.setIfInBounds_toArray, List.map_set]
structure DkW (f : Flr) (bf ba : Nat) (a : List Nat) (w0 w : World) : Prop where
  box : w.heap[bf]? = some (.cells #[.int .i64 f.W, .int .i64 f.H, .string f.s] 23 (0, 0))
  arr : w.heap[ba]? = some (.cells (arr8 a) 96 (0, 0))
  kp : Kp No w0 w
  lt : w0.heap.size ≤ bf ∧ w0.heap.size ≤ ba ∧ bf ≠ ba
theorem DkW.set {f : Flr} {bf ba : Nat} {a : List Nat} {w0 w : World} (h : DkW f bf ba a w0 w) (r x : Nat) : DkW f bf ba (a.set r x) w0 (w.setCell ⟨ba, r, none⟩ (.int .i64 (x : Int))) :=
  ⟨blk_far h.box h.lt.2.2 _, by rw [← arr8_set]; exact blk_set h.arr r _, h.kp.setCell (fun e => by have e : ba < w0.heap.size := e; have := h.lt; omega) _, h.lt⟩
theorem DkW.no {f : Flr} {bf ba : Nat} {a : List Nat} {w0 w w' : World} (h : DkW f bf ba a w0 w) (hk : Kp No w w') : DkW f bf ba a w0 w' := ⟨hk.blk h.box (no_no _), hk.blk h.arr (no_no _), h.kp.no hk, h.lt⟩
theorem ints_snocD (L : List Nat) (x : Nat) : ints (L ++ (some (x + 1)).toList.map (· - 1)) = ints L ++ [(x : Int)] := by simp [ints]
def DocksR (s : ByteArray) (w : World) (e : Ending) (w' : World) : Prop :=
  (∃ ds v, e = .returned (.tuple #[v, .bool true]) ∧ DocksL s ds ∧ NewS IK 3 w w' v (ints ds)) ∨ (e = .returned (.tuple #[.slice none 0 0, .bool false]) ∧ (¬ ∃ ds, DocksL s ds) ∧ Kp No w w')

set_option maxHeartbeats 2000000 in
set_option maxRecDepth 100000 in
theorem docks_any (f : Flr) (hs : f.s.size ≤ 2000) (w : World) : Calls Tryz.prog 34 #[f.val] w (DocksR f.s w) := by
  unfold Flr.val
  obtain ⟨n, hn⟩ : ∃ n, n = f.s.size := ⟨_, rfl⟩
  have hnI : ((f.s.size : Nat) : Int) = (n : Int) := by omega
  have HN := Lib.hid hn
  have hn2 : n ≤ 2000 := by omega
  clear hs hn
  go_enter Tryz.func34, Tryz.ntmps34
  go_wp2
  obtain ⟨bf, hbf⟩ : ∃ bf, bf = w.heap.size := ⟨_, rfl⟩
  obtain ⟨ba, hba⟩ : ∃ ba, ba = w.heap.size + 1 := ⟨_, rfl⟩
  obtain ⟨w0, hw0⟩ : ∃ w0, w0 = (w.alloc (.cells #[.int .i64 f.W, .int .i64 f.H, .string f.s] 23)).alloc (.cells #[.int .i64 0, .int .i64 0, .int .i64 0, .int .i64 0, .int .i64 0, .int .i64 0, .int .i64 0, .int .i64 0] 96) := ⟨_, rfl⟩
  have D0 : Hid (DkW f bf ba (List.replicate 8 0) w w0) := Lib.hid (by
    rw [hw0, hbf, hba]
    refine ⟨blk_alloc (blk_new w _) _, ?_, ((Kp.refl _ _).alloc _).alloc _, by omega, by omega, by omega⟩
    have := blk_new (w.alloc (.cells #[.int .i64 f.W, .int .i64 f.H, .string f.s] 23)) (.cells #[.int .i64 0, .int .i64 0, .int .i64 0, .int .i64 0, .int .i64 0, .int .i64 0, .int .i64 0, .int .i64 0] 96)
    show (_ : World).heap[_]? = some (Obj.cells #[.int .i64 0, .int .i64 0, .int .i64 0, .int .i64 0, .int .i64 0, .int .i64 0, .int .i64 0, .int .i64 0] 96 (0, 0))
    simpa using this)
  rw [← hba, ← hbf, ← hw0]
  clear hbf hba hw0
  go_loopg [5, 14] (n + 1) (fun g2 c kk wr => ∃ (k m : Nat) (a : List Nat), g2 = n + 1 - k ∧ kk = .int .i64 k ∧ c = .int .i64 m ∧ k ≤ n ∧ DkW f bf ba a w wr ∧ DkI f.s k a m)
  case atStart => exact ⟨0, 0, _, rfl, rfl, rfl, by omega, D0.out, DkI.start _⟩
  case round =>
    obtain ⟨k, m, a, hgk, rfl, rfl, hk, dw, di⟩ := hrel
    have hm8 := di.n8
    have DW := Lib.hid dw; have DI := Lib.hid di
    clear dw di
    by_cases hlt : k < n
    · have hltI : (k : Int) < (n : Int) := by omega
      have hwk : IntKind.i64.wrap ((k : Int) + 1) = (k : Int) + 1 := IntWalk.i64_in _ (by omega)
      have hwm : IntKind.i64.wrap ((m : Int) + 1) = (m : Int) + 1 := IntWalk.i64_in _ (by omega)
      have hks : k < f.s.size := by have := HN.out; omega
      have hksI : (k : Int) < ((f.s.size : Nat) : Int) := by omega
      have hbt := bt_at f.s k
      have hb2 : wr.cell? ⟨bf, 2, none⟩ = some (.string f.s) := blk_cell DW.out.box 2
      obtain ⟨K, hK⟩ : ∃ K, K = kindB (bt f.s k) := ⟨_, rfl⟩
      have hkd := fun w => kind_any (bt f.s k) w
      rw [← hK] at hkd
      have HK := Lib.hid (show K = kdS f.s k from hK)
      have HKD := Lib.hid hkd
      clear hkd
      by_cases h3 : K = 3
      · have h3b : ((K : Int) != 3) = false := by simp [h3]
        have hdk := kd_dock (hK.symm.trans h3)
        have hkk : kdS f.s k = 3 := by rw [← HK.out, h3]
        obtain ⟨B, hB⟩ : ∃ B, B = bt f.s k := ⟨_, rfl⟩
        rw [← hB] at hbt HKD hdk
        obtain ⟨r, hr⟩ : ∃ r, B = 48 + r := ⟨B - 48, by omega⟩
        have hsub : IntKind.u8.wrap ((B : Int) - 48) = (r : Int) := by rw [IntWalk.u8_in _ (by omega)]; omega
        have hr8 : (r : Int) < 8 := by omega
        have hra : r < a.length := by rw [DI.out.len]; omega
        obtain ⟨x, hx⟩ : ∃ x, a[r]? = some x := ⟨_, List.getElem?_eq_getElem hra⟩
        have hcx : wr.cell? ⟨ba, r, none⟩ = some (.int .i64 (x : Int)) := (blk_cell DW.out.arr r).trans (arr8_get hx)
        have hcf : wr.frozen? ⟨ba, r, none⟩ = false := blk_free DW.out.arr r
        rcases x with _ | x
        · have D2 := Lib.hid (DW.out.set r (k + 1))
          have I2 := Lib.hid (DI.out.take hkk (by rw [← hB, hr]) hx)
          clear hx hra hB hr hdk hkk h3 hK hlt hks
          go_wp2_with (go_at_call 51; refine (HKD.out _).mono ?_; rintro e wz ⟨rfl, rfl⟩)
          go_roundg (n + 1 - (k + 1))
          case measure => omega
          case rel => exact ⟨k + 1, m + 1, _, rfl, by go_num, by go_num, by omega, D2.out, I2.out⟩
        · have hno := Lib.hid (DI.out.twice hks hkk (by rw [← hB, hr]) hx)
          have hx0 : (0 : Int) < ((x + 1 : Nat) : Int) := by omega
          clear hx hra hB hr hdk hkk h3 hK hlt hks
          go_wp2_with (go_at_call 51; refine (HKD.out _).mono ?_; rintro e wz ⟨rfl, rfl⟩)
          go_ret2
          exact .inr ⟨rfl, hno.out, DW.out.kp⟩
      · have h3b : ((K : Int) != 3) = true := by simp; omega
        have I2 := Lib.hid (DI.out.skip (by rw [← HK.out]; exact h3))
        clear h3 hK hlt hks
        go_wp2_with (go_at_call 51; refine (HKD.out _).mono ?_; rintro e wz ⟨rfl, rfl⟩)
        go_roundg (n + 1 - (k + 1))
        case measure => omega
        case rel => exact ⟨k + 1, m, a, rfl, by go_num, rfl, by omega, DW.out, I2.out⟩
    · obtain rfl : k = n := by omega
      have hd0 : ¬ (k : Int) < (k : Int) := by omega
      have DE := Lib.hid (show DkI f.s f.s.size a m by rw [← HN.out]; exact DI.out)
      have hm8I : (m : Int) ≤ 8 := by omega
      have hm0 : (0 : Int) ≤ (m : Int) := by omega
      clear hlt DI
      go_wp2
      obtain ⟨wo, rfl⟩ : ∃ wo : World, wo = wr := ⟨_, rfl⟩
      have KW := Lib.hid DW.out.kp
      have NS0 := Lib.hid (show NewS IK 3 w wo (.slice none 0 0) (ints ((a.take 0).map (· - 1))) from ⟨Own.nil _ _ _, by simp [Value.ownBlock], DW.out.kp⟩)
      have NB0 := Lib.hid (show ∀ g, (Value.slice none 0 0).ownBlock = some g → g ≠ ba by simp [Value.ownBlock])
      go_loopg [8, 42] (m + 1) (fun g2 v jj wx => ∃ j : Nat, g2 = m + 1 - j ∧ jj = .int .i64 j ∧ j ≤ m ∧ (∀ i, i < j → a[i]? ≠ some 0) ∧ NewS IK 3 w wx v (ints ((a.take j).map (· - 1))) ∧ DkW f bf ba a w wx ∧ (∀ g, v.ownBlock = some g → g ≠ ba ∧ g ≠ bf) ∧ (j = 0 → v = .slice none 0 0))
      case atStart => exact ⟨0, rfl, rfl, by omega, by simp, NS0.out, DW.out, by simp [Value.ownBlock], fun _ => rfl⟩
      case round =>
        obtain ⟨j, hgj, rfl, hj, hnz, ns, dw, nb, hz⟩ := hrel
        have hla : ((a.take j).map (· - 1)).length = j := by rw [List.length_map, List.length_take]; have := DE.out.len; omega
        have hj8 : j ≤ 8 := by omega
        by_cases hlt : j < m
        · have hltI : (j : Int) < (m : Int) := by omega
          have hwj : IntKind.i64.wrap ((j : Int) + 1) = (j : Int) + 1 := IntWalk.i64_in _ (by omega)
          have hra : j < a.length := by rw [DE.out.len]; omega
          obtain ⟨x, hx⟩ : ∃ x, a[j]? = some x := ⟨_, List.getElem?_eq_getElem hra⟩
          have hcx : wr.cell? ⟨ba, j, none⟩ = some (.int .i64 (x : Int)) := (blk_cell dw.arr j).trans (arr8_get hx)
          rcases x with _ | x
          · have hno := Lib.hid (DE.out.hole hlt hx)
            have KX := Lib.hid dw.kp
            clear ns dw nb hz hnz hla hx hra hlt
            go_wp2
            go_ret2
            exact .inr ⟨rfl, hno.out, KX.out⟩
          · obtain ⟨A3, q3, rfl⟩ := ns.own.rd.shape
            obtain ⟨T, hTe⟩ : ∃ T, T = (a.take j).map (· - 1) := ⟨_, rfl⟩
            obtain ⟨y, hy⟩ : ∃ y, y = x + 1 := ⟨_, rfl⟩
            rw [← hTe] at ns nb hz hla ⊢
            rw [← hy] at hcx
            rw [ints_len, hla] at ns nb hz ⊢
            have hxw : IntKind.i64.wrap ((y : Int) - 1) = (x : Int) := by
              have := (DE.out.sound j x hx).1
              have := HN.out
              rw [IntWalk.i64_in _ (by omega)]; omega
            have hxe : ((y : Int) == 0) = false := by simp; omega
            have HZ := Lib.hid (show ∀ i, i < j + 1 → a[i]? ≠ some 0 by
              intro i hi
              rcases Nat.lt_or_ge i j with h | h
              · exact hnz i h
              · obtain rfl : i = j := by omega
                rw [hx]; simp)
            have HT := Lib.hid (show ints ((a.take (j + 1)).map (· - 1)) = ints T ++ [(x : Int)] by
              rw [List.take_add_one, hx, List.map_append, hTe]; exact ints_snocD _ x)
            have NS := Lib.hid ns; have DX := Lib.hid dw; have NB := Lib.hid nb
            have HLA := Lib.hid hla
            clear ns dw nb hz hnz hla hx hra hlt hTe hy
            go_wp2_with (at_builtin; refine wpl_append elI rfl (.tmp 48) (.tmp 51) rfl rfl rfl (l := ints T) (m := [(x : Int)]) ?c1 ?c2 ?c3 ?c4 ?c5)
            case c1 => exact NS.out.own.alloc _
            case c2 => exact Rd.litAt IK 3 _ _ [(x : Int)] rfl (by unfold maxLen; simp) _ _ rfl rfl
            case c3 => show (ints _).length + 1 ≤ maxLen; rw [ints_len, HLA.out]; unfold maxLen; omega
            case c4 => show ((ints _).length + 1) * 8 ≤ _; rw [ints_len, HLA.out]; omega
            case c5 =>
              intro v' w' k1 k2 k3
              rw [← HT.out] at k1
              have q := NewS.app2 k1 k2 k3 ((Kp.refl No wr).alloc _) NS.out (Nat.le_succ _)
              have d1 := DX.out.no ((Kp.refl No wr).alloc (.cells #[.int .i64 (x : Int)] 3))
              have hs1 := lt_of_block DX.out.arr
              have hs2 := lt_of_block DX.out.box
              have d2 : DkW f bf ba a w w' := ⟨k2.blk d1.box (fun e => (NB.out _ e).2 rfl), k2.blk d1.arr (fun e => (NB.out _ e).1 rfl), q.kp, d1.lt⟩
              have n2 : ∀ g, v'.ownBlock = some g → g ≠ ba ∧ g ≠ bf := fun g hg => by
                rcases k3 g hg with e | e
                · exact NB.out g e
                · have e : wr.heap.size + 1 ≤ g := e; omega
              obtain ⟨A5, q5, rfl⟩ := k1.rd.shape
              have Q := Lib.hid q; have D2 := Lib.hid d2; have N2 := Lib.hid n2
              clear q d1 d2 n2 k1 k2 k3 hs1 hs2 hcx
              go_wp2
              go_roundg (m + 1 - (j + 1))
              case measure => omega
              case rel => exact ⟨j + 1, rfl, by go_num, by omega, HZ.out, Q.out, D2.out, N2.out, fun e => absurd e (by omega)⟩
        · obtain rfl : j = m := by omega
          have hd0 : ¬ (j : Int) < (j : Int) := by omega
          clear hlt
          by_cases hj0 : j = 0
          · subst hj0
            obtain rfl := hz rfl
            have KX := Lib.hid dw.kp
            have hno := Lib.hid DE.out.none
            clear ns dw nb hz hnz hla
            go_wp2
            go_ret2
            exact .inr ⟨rfl, hno.out, KX.out⟩
          · have hjp : (0 : Int) < (j : Int) := by omega
            have hjp2 : 0 < j := by omega
            have hjb : decide (0 < j) = true := by simp; omega
            have HDS := Lib.hid (DE.out.docks (by omega) hnz)
            obtain ⟨T, hTe⟩ : ∃ T, T = ints ((a.take j).map (· - 1)) := ⟨_, rfl⟩
            rw [← hTe] at ns
            have HTe := Lib.hid hTe
            have NS := Lib.hid ns
            clear ns dw nb hz hnz hla hj0 hTe
            obtain ⟨A3, q3, rfl⟩ := NS.out.own.rd.shape
            go_wp2
            go_ret2
            exact .inl ⟨_, _, rfl, HDS.out, by rw [← HTe.out]; exact NS.out⟩
end Go.Proofs.YtmipnicdlldjnaaGreatDoor

namespace Go.Proofs.YtmipnicdlldjnaaGreatDoor
set_option linter.unusedVariables false
set_option linter.unusedSimpArgs false
open Go.RowKit

def lanesTo (s : ByteArray) (k : Nat) : List Nat := (List.range k).filter fun i => kdS s i == 2
theorem lanesTo_in {s : ByteArray} {k : Nat} (h : kdS s k = 2) : lanesTo s (k + 1) = lanesTo s k ++ [k] := by
  unfold lanesTo; rw [List.range_succ, List.filter_append]; simp [h]
theorem lanesTo_out {s : ByteArray} {k : Nat} (h : kdS s k ≠ 2) : lanesTo s (k + 1) = lanesTo s k := by
  unfold lanesTo; rw [List.range_succ, List.filter_append]; simp [h]
theorem lanesTo_mem {s : ByteArray} {k i : Nat} : i ∈ lanesTo s k ↔ i < k ∧ kdS s i = 2 := by unfold lanesTo; simp
theorem lanesTo_len (s : ByteArray) (k : Nat) : (lanesTo s k).length ≤ k := by unfold lanesTo; exact Nat.le_trans (List.length_filter_le _ _) (by simp)

/-- What the search knows: L: lanes that were not met; N: lanes that were met, and are to be looked at. -/
structure Dfs (W H : Nat) (s : ByteArray) (l : Nat) (L N : List Nat) : Prop where
  lane : ∀ i ∈ L, laneI s i
  conn : ∀ i, laneI s i → i ∉ L → Conn W H s l i
  next : ∀ i ∈ N, laneI s i ∧ i ∉ L
  shut : ∀ i, laneI s i → i ∉ L → i ∈ N ∨ ∀ k ∈ besideP W H i, laneI s k → k ∉ L
  first : laneI s l ∧ l ∉ L
/-- While a lane's neighbours are looked at. -/
structure DfsI (W H : Nat) (s : ByteArray) (l c j : Nat) (L N : List Nat) : Prop where
  lane : ∀ i ∈ L, laneI s i
  conn : ∀ i, laneI s i → i ∉ L → Conn W H s l i
  next : ∀ i ∈ N, laneI s i ∧ i ∉ L
  shut : ∀ i, laneI s i → i ∉ L → i ∈ N ∨ i = c ∨ ∀ k ∈ besideP W H i, laneI s k → k ∉ L
  first : laneI s l ∧ l ∉ L
  cell : laneI s c ∧ c ∉ L
  part : ∀ k ∈ (besideP W H c).take j, k ∉ L
section
variable {W H l c j : Nat} {s : ByteArray} {L N : List Nat}
theorem Dfs.pop (h : Dfs W H s l L (N ++ [c])) : DfsI W H s l c 0 L N :=
  ⟨h.lane, h.conn, fun i hi => h.next i (List.mem_append_left _ hi), fun i h1 h2 => by
    rcases h.shut i h1 h2 with h3 | h3
    · rcases List.mem_append.1 h3 with h3 | h3
      · exact .inl h3
      · exact .inr (.inl (List.mem_singleton.1 h3))
    · exact .inr (.inr h3), h.first, h.next c (by simp), fun k hk => by simp at hk⟩
theorem DfsI.seen (h : DfsI W H s l c j L N) {b : Nat} (hb : (besideP W H c)[j]? = some b) (hn : b ∉ L) : DfsI W H s l c (j + 1) L N :=
  ⟨h.lane, h.conn, h.next, h.shut, h.first, h.cell, fun k hk => by
      rw [List.take_add_one, hb] at hk
      rcases List.mem_append.1 hk with hk | hk
      · exact h.part k hk
      · simp at hk; subst hk; exact hn⟩
theorem DfsI.meet (h : DfsI W H s l c j L N) {b : Nat} (hb : (besideP W H c)[j]? = some b) (hn : b ∈ L) : DfsI W H s l c (j + 1) (L.filter fun x => x != b) (N ++ [b]) := by
  have hm : ∀ i, i ∉ L.filter (fun x => x != b) → i ∉ L ∨ i = b := by
    intro i hi
    by_cases e : i = b
    · exact .inr e
    · exact .inl fun h2 => hi (List.mem_filter.2 ⟨h2, by simp [e]⟩)
  have hs : ∀ i, i ∉ L → i ∉ L.filter (fun x => x != b) := fun i hi h2 => hi (List.mem_filter.1 h2).1
  have hbb : b ∉ L.filter (fun x => x != b) := fun h2 => by have := (List.mem_filter.1 h2).2; simp at this
  refine ⟨fun i hi => h.lane i (List.mem_filter.1 hi).1, fun i h1 h2 => ?_, fun i hi => ?_, fun i h1 h2 => ?_, ⟨h.first.1, hs _ h.first.2⟩, ⟨h.cell.1, hs _ h.cell.2⟩, fun k hk => ?_⟩
  · rcases hm i h2 with h3 | rfl
    · exact h.conn i h1 h3
    · exact .step (h.conn c h.cell.1 h.cell.2) (List.mem_of_getElem? hb) h1
  · rcases List.mem_append.1 hi with hi | hi
    · exact ⟨(h.next i hi).1, hs _ (h.next i hi).2⟩
    · obtain rfl := List.mem_singleton.1 hi
      exact ⟨h.lane _ hn, hbb⟩
  · rcases hm i h2 with h3 | rfl
    · rcases h.shut i h1 h3 with h4 | h4 | h4
      · exact .inl (List.mem_append_left _ h4)
      · exact .inr (.inl h4)
      · exact .inr (.inr fun k hk hl => hs _ (h4 k hk hl))
    · exact .inl (by simp)
  · rw [List.take_add_one, hb] at hk
    rcases List.mem_append.1 hk with hk | hk
    · exact hs _ (h.part k hk)
    · simp at hk; subst hk; exact hbb
theorem DfsI.done (h : DfsI W H s l c (besideP W H c).length L N) : Dfs W H s l L N :=
  ⟨h.lane, h.conn, h.next, fun i h1 h2 => by
    rcases h.shut i h1 h2 with h3 | rfl | h3
    · exact .inl h3
    · exact .inr fun k hk _ => h.part k (by rw [List.take_length]; exact hk)
    · exact .inr h3, h.first⟩
theorem Dfs.end_ (h : Dfs W H s l L []) (hW : 1 ≤ W) (hs : s.size = W * H) : L = [] ↔ joinedP W H s := by
  rw [joined_one hW hs h.first.1]
  constructor
  · rintro rfl j hj
    exact h.conn j hj (by simp)
  · intro hc
    rcases L with _ | ⟨x, xs⟩
    · rfl
    · exfalso
      have hx := h.lane x (by simp)
      have := (hc x hx).closed (p := fun i => laneI s i ∧ i ∉ x :: xs) h.first fun j k hj hk hl => by
        rcases h.shut j hj.1 hj.2 with h3 | h3
        · simp at h3
        · exact ⟨hl, h3 k hk hl⟩
      exact this.2 (by simp)
theorem Dfs.start (hl : laneI s l) : Dfs W H s l ((lanesTo s s.size).filter fun x => x != l) [l] := by
  have hm : ∀ i, laneI s i → i ∉ (lanesTo s s.size).filter (fun x => x != l) → i = l := by
    intro i hi hn
    by_cases e : i = l
    · exact e
    · exact absurd (List.mem_filter.2 ⟨lanesTo_mem.2 hi, by simp [e]⟩) hn
  have hln : l ∉ (lanesTo s s.size).filter fun x => x != l := fun h2 => by have := (List.mem_filter.1 h2).2; simp at this
  refine ⟨fun i hi => lanesTo_mem.1 (List.mem_filter.1 hi).1, fun i h1 h2 => ?_, fun i hi => ?_, fun i h1 h2 => ?_, hl, hln⟩
  · rw [hm i h1 h2]; exact .refl
  · rw [List.mem_singleton.1 hi]; exact ⟨hl, hln⟩
  · rw [hm i h1 h2]; exact .inl (by simp)
theorem filter_ne_lt {L : List Nat} {b : Nat} (h : b ∈ L) : (L.filter fun x => x != b).length + 1 ≤ L.length := by
  have := List.length_filter_lt_length_iff_exists (p := fun x => x != b) (l := L) |>.2 ⟨b, h, by simp⟩
  omega
end
end Go.Proofs.YtmipnicdlldjnaaGreatDoor

namespace Go.Proofs.YtmipnicdlldjnaaGreatDoor
set_option linter.unusedVariables false
set_option linter.unusedSimpArgs false
open Go.RowKit

/-- Map bm holds es, in this order. -/
def MapI (w : World) (bm : Nat) (es : List (Int × Value)) : Prop :=
  ∃ arr clk, w.heap[bm]? = some (.map arr clk) ∧ arr.toList.map (fun e => (e.key, e.val)) = es.map (fun x => (Value.int .i64 x.1, x.2)) ∧ (es.map (·.1)).Nodup ∧ (∀ e ∈ arr.toList, e.born < clk) ∧ (arr.toList.map (·.born)).Nodup

def findI (c : Int) : List (Int × Value) → Nat → Option (Nat × Value)
  | [], _ => none
  | x :: xs, i => if c == x.1 then some (i, x.2) else findI c xs (i + 1)
def getV (es : List (Int × Value)) (c : Int) (z : Value) : Value := ((findI c es 0).map (·.2)).getD z
def hasV (es : List (Int × Value)) (c : Int) : Bool := (findI c es 0).isSome
def updV : List (Int × Value) → Int → Value → List (Int × Value)
  | [], c, v => [(c, v)]
  | x :: xs, c, v => if c == x.1 then (c, v) :: xs else x :: updV xs c v
def delV (es : List (Int × Value)) (c : Int) : List (Int × Value) := es.filter (fun x => !(x.1 == c))

theorem findI_shift (c : Int) (xs : List (Int × Value)) (i : Nat) : findI c xs i = (findI c xs 0).map fun r => (i + r.1, r.2) := by
  induction xs generalizing i with
  | nil => rfl
  | cons x xs ih =>
    unfold findI
    split
    · simp
    · rw [ih (i + 1), ih (0 + 1)]
      cases findI c xs 0 with
      | none => rfl
      | some r => simp; omega

theorem findNow_I (c : Int) : ∀ (es : List MapEntry) (xs : List (Int × Value)) (i : Nat), es.map (fun e => (e.key, e.val)) = xs.map (fun x => (Value.int .i64 x.1, x.2)) →
    Instr.findNow (.int .i64) (.int .i64 c) es i = some (findI c xs i)
  | [], [], _, _ => rfl
  | [], x :: xs, _, h => by simp at h
  | e :: es, [], _, h => by simp at h
  | e :: es, x :: xs, i, h => by
    simp only [List.map_cons, List.cons.injEq, Prod.mk.injEq] at h
    obtain ⟨⟨h1, h2⟩, h3⟩ := h
    have ih := findNow_I c es xs (i + 1) h3
    simp only [Instr.findNow, h1, h2, Instr.sameNow, findI, if_true]
    by_cases hc : c = x.1
    · simp [hc]
    · have hcb : (c == x.1) = false := by simp [hc]
      simp [hcb, ih]

section
variable {P : Program} {tm k e : TypeId} {w : World} {bm : Nat} {es : List (Int × Value)}

structure MapT (P : Program) (tm k e : TypeId) (z : Value) : Prop where
  und : P.underlying tm = some (.map k e)
  key : P.underlying k = some (.int .i64)
  zero : ∀ w, (zeroValue e).run P w = .ok z w

theorem MapI.heap (h : MapI w bm es) : ∃ o, w.heap[bm]? = some o := let ⟨_, _, h1, _⟩ := h; ⟨_, h1⟩
theorem MapI.lt (h : MapI w bm es) : bm < w.heap.size := let ⟨_, _, h1, _⟩ := h; lt_of_block h1
theorem MapI.kp {w' : World} {S : Nat → Prop} (h : MapI w bm es) (hk : Kp S w w') (hn : ¬ S bm) : MapI w' bm es :=
  let ⟨arr, clk, h1, h2⟩ := h
  ⟨arr, clk, hk.blk h1 hn, h2⟩
theorem MapI.made (w : World) : MapI (w.alloc (.map #[] 0)) w.heap.size [] := ⟨#[], 0, blk_new w _, rfl, by simp, by simp, by simp⟩

theorem run_checkKey (hk : P.underlying k = some (.int .i64)) (b : Bool) (n : Nat) (c : Int) (w : World) : (Instr.checkKey b (n + 1) k (.int .i64 c)).run P w = .ok () w := by
  simp [Instr.checkKey, run_underlying hk]

theorem MapI.look {z : Value} (T : MapT P tm k e z) (h : MapI w bm es) (c : Int) : (Instr.lookup tm (.map (some bm)) (.int .i64 c) false).run P w = .ok (getV es c z) w := by
  obtain ⟨arr, clk, hb, hm, _⟩ := h
  have hf := findNow_I c arr.toList es 0 hm
  have hck := run_checkKey (P := P) (k := k) T.key arr.isEmpty 9999 c w
  simp only [Instr.lookup, Instr.findKey]
  simp [run_underlying T.und, run_underlying T.key, MapKept.run_getObj_map hb, hck, hf]
  cases hr : findI c es 0 with
  | none => simp [getV, hr, T.zero w]
  | some r => simp [getV, hr]

theorem MapI.lookOk {z : Value} (T : MapT P tm k e z) (h : MapI w bm es) (c : Int) : (Instr.lookup tm (.map (some bm)) (.int .i64 c) true).run P w = .ok (.tuple #[getV es c z, .bool (hasV es c)]) w := by
  obtain ⟨arr, clk, hb, hm, _⟩ := h
  have hf := findNow_I c arr.toList es 0 hm
  have hck := run_checkKey (P := P) (k := k) T.key arr.isEmpty 9999 c w
  simp only [Instr.lookup, Instr.findKey]
  simp [run_underlying T.und, run_underlying T.key, MapKept.run_getObj_map hb, hck, hf]
  cases hr : findI c es 0 with
  | none => simp [getV, hasV, hr, T.zero w]
  | some r => simp [getV, hasV, hr]

theorem findI_some {c : Int} {xs : List (Int × Value)} {j : Nat} {u : Value} (h : findI c xs 0 = some (j, u)) : xs[j]? = some (c, u) ∧ ∀ v, updV xs c v = xs.set j (c, v) := by
  induction xs generalizing j with
  | nil => simp [findI] at h
  | cons x xs ih =>
    unfold findI at h
    by_cases hc : c = x.1
    · simp [hc] at h
      obtain ⟨rfl, rfl⟩ := h
      refine ⟨by simp [hc], fun v => by simp [updV, hc]⟩
    · simp only [beq_eq_false_iff_ne.2 hc] at h
      rw [findI_shift] at h
      simp only [Bool.false_eq_true, if_false, Option.map_eq_some_iff, Prod.mk.injEq, Prod.exists] at h
      obtain ⟨a, b, hr, rfl, rfl⟩ := h
      obtain ⟨i1, i2⟩ := ih hr
      refine ⟨by rw [Nat.add_comm]; simpa using i1, fun v => ?_⟩
      rw [Nat.add_comm]
      simp [updV, hc, i2 v]

theorem findI_none {c : Int} {xs : List (Int × Value)} (h : findI c xs 0 = none) : c ∉ xs.map (·.1) ∧ ∀ v, updV xs c v = xs ++ [(c, v)] := by
  induction xs with
  | nil => simp [updV]
  | cons x xs ih =>
    unfold findI at h
    by_cases hc : c = x.1
    · simp [hc] at h
    · simp only [beq_eq_false_iff_ne.2 hc] at h
      rw [findI_shift] at h
      simp only [Bool.false_eq_true, if_false, Option.map_eq_none_iff] at h
      obtain ⟨i1, i2⟩ := ih h
      refine ⟨by simp only [List.map_cons, List.mem_cons, not_or]; exact ⟨hc, i1⟩, fun v => by simp [updV, hc, i2 v]⟩

theorem MapI.upd {z : Value} (T : MapT P tm k e z) (h : MapI w bm es) (c : Int) (v : Value) :
    ∃ w', (Instr.mapUpdate tm (.map (some bm)) (.int .i64 c) v).run P w = .ok () w' ∧ MapI w' bm (updV es c v) ∧ Kp (fun j => j = bm) w w' := by
  obtain ⟨arr, clk, hb, hm, hnd, hborn, hbn⟩ := h
  have hlt := lt_of_block hb
  have hf := findNow_I c arr.toList es 0 hm
  have hck := run_checkKey (P := P) (k := k) T.key false 9999 c w
  cases hr : findI c es 0 with
  | none =>
    rw [hr] at hf
    obtain ⟨hnc, hu⟩ := findI_none hr
    refine ⟨{ w with heap := w.heap.setIfInBounds bm (.map (arr.push ⟨.int .i64 c, v, clk⟩) (clk + 1)) }, ?_, ?_, (Kp.refl (fun j => j = bm) w).setBlk (fun _ => rfl) _⟩
    · simp only [Instr.mapUpdate, Instr.findKey]
      simp [run_underlying T.und, run_underlying T.key, MapKept.run_getObj_map hb, hck, hf]
      simp [setObj, Sem.run, hb]
    · refine ⟨_, _, by simp [hlt]; exact ⟨rfl, rfl⟩, ?_, ?_, ?_, ?_⟩
      · simp [hu, hm]
      · rw [hu, List.map_append, List.nodup_append]
        refine ⟨hnd, by simp, ?_⟩
        intro a ha b hb' hab
        simp at hb'
        subst hb' hab
        exact hnc ha
      · intro e he
        simp at he
        rcases he with he | rfl
        · have := hborn e (by simpa using he); omega
        · simp
      · simp only [Array.toList_push, List.map_append, List.map_cons, List.map_nil]
        rw [List.nodup_append]
        refine ⟨hbn, by simp, ?_⟩
        intro a ha b hb' hab
        simp at hb'
        subst hb' hab
        obtain ⟨e, he, rfl⟩ := List.mem_map.1 ha
        have := hborn e he
        omega
  | some r =>
    obtain ⟨j, u⟩ := r
    rw [hr] at hf
    obtain ⟨hj, hu⟩ := findI_some hr
    obtain ⟨e0, he0, hek⟩ : ∃ e0, arr[j]? = some e0 ∧ e0.key = .int .i64 c := by
      have : (arr.toList.map (fun e => (e.key, e.val)))[j]? = some (Value.int .i64 c, u) := by rw [hm]; simp [hj]
      rw [List.getElem?_map] at this
      simp only [Option.map_eq_some_iff, Prod.mk.injEq] at this
      obtain ⟨e0, h1, h2, _⟩ := this
      exact ⟨e0, by simpa using h1, h2⟩
    have hjl : j < arr.size := (Array.getElem?_eq_some_iff.1 he0).1
    have hje : arr[j] = e0 := (Array.getElem?_eq_some_iff.1 he0).2
    have hkts : (Instr.keyThatStays (.int .i64 c) (.int .i64 c)).run P w = .ok (.int .i64 c) w := by simp [Instr.keyThatStays, Instr.sameBits]
    refine ⟨{ w with heap := w.heap.setIfInBounds bm (.map (arr.modify j fun e => { e with key := .int .i64 c, val := v }) clk) }, ?_, ?_, (Kp.refl (fun j => j = bm) w).setBlk (fun _ => rfl) _⟩
    · simp only [Instr.mapUpdate, Instr.findKey]
      simp [run_underlying T.und, run_underlying T.key, MapKept.run_getObj_map hb, hck, hf, he0, hek, hkts]
      simp [setObj, Sem.run, hb]
    · have hl : (arr.modify j fun e => { e with key := .int .i64 c, val := v }).toList = arr.toList.set j { e0 with key := .int .i64 c, val := v } := by
        apply List.ext_getElem?
        intro i
        rw [Array.getElem?_toList, Array.getElem?_modify, List.getElem?_set]
        by_cases hij : j = i
        · subst hij; simp [hje, hjl]
        · simp [hij]
      refine ⟨_, _, by simp [hlt]; exact ⟨rfl, rfl⟩, ?_, ?_, ?_, ?_⟩
      · rw [hl, List.map_set, hm, hu, List.map_set]
      · rw [hu, List.map_set]
        have : (es.map (·.1)).set j c = es.map (·.1) := by
          apply List.ext_getElem?
          intro i
          rw [List.getElem?_set]
          by_cases hij : j = i
          · subst hij; simp [hj]; exact (List.getElem?_eq_some_iff.1 hj).1
          · simp [hij]
        rw [this]; exact hnd
      · intro e he
        rw [hl] at he
        rcases List.mem_or_eq_of_mem_set he with h | rfl
        · exact hborn e h
        · exact hborn e0 (by simpa using Array.mem_of_getElem? he0)
      · rw [hl, List.map_set]
        have : (arr.toList.map (·.born)).set j e0.born = arr.toList.map (·.born) := by
          apply List.ext_getElem?
          intro i
          rw [List.getElem?_set]
          by_cases hij : j = i
          · subst hij; simp [hje, hjl]
          · simp [hij]
        rw [this]; exact hbn

/-! ### Ranging over a map -/

/-- Iterator r over map bm, that holds es; the entries of the keys 'done' have come. -/
def RangeI (w : World) (r bm : Nat) (es : List (Int × Value)) (done : List Int) : Prop :=
  ∃ arr clk seen since, w.heap[bm]? = some (.map arr clk) ∧ w.heap[r]? = some (.mapIter (some bm) since seen clk) ∧ arr.toList.map (fun e => (e.key, e.val)) = es.map (fun x => (Value.int .i64 x.1, x.2)) ∧ (es.map (·.1)).Nodup ∧
    (∀ e ∈ arr.toList, e.born < since) ∧ since ≤ clk ∧ (arr.toList.map (·.born)).Nodup ∧ ∀ e ∈ arr.toList, ∀ c, e.key = .int .i64 c → (seen.contains e.born = true ↔ c ∈ done)

theorem RangeI.map {r : Nat} {done : List Int} (h : RangeI w r bm es done) : MapI w bm es :=
  let ⟨arr, clk, _, _, h1, _, h3, h4, h5, h6, h7, _⟩ := h
  ⟨arr, clk, h1, h3, h4, fun e he => by have := h5 e he; omega, h7⟩
theorem RangeI.kp {w' : World} {S : Nat → Prop} {r : Nat} {done : List Int} (h : RangeI w r bm es done) (hk : Kp S w w') (h1 : ¬ S bm) (h2 : ¬ S r) : RangeI w' r bm es done :=
  let ⟨arr, clk, seen, since, a1, a2, a3⟩ := h
  ⟨arr, clk, seen, since, hk.blk a1 h1, hk.blk a2 h2, a3⟩
theorem RangeI.ne {r : Nat} {done : List Int} (h : RangeI w r bm es done) : r ≠ bm := by
  obtain ⟨arr, clk, seen, since, a1, a2, _⟩ := h
  rintro rfl
  rw [a1] at a2
  simp at a2
theorem RangeI.lt {r : Nat} {done : List Int} (h : RangeI w r bm es done) : r < w.heap.size := let ⟨_, _, _, _, _, a2, _⟩ := h; lt_of_block a2

theorem entry_of {arr : Array MapEntry} (hm : arr.toList.map (fun e => (e.key, e.val)) = es.map (fun x => (Value.int .i64 x.1, x.2))) {e : MapEntry} (he : e ∈ arr.toList) : ∃ x ∈ es, e.key = .int .i64 x.1 ∧ e.val = x.2 := by
  have : (e.key, e.val) ∈ es.map (fun x => (Value.int .i64 x.1, x.2)) := hm ▸ List.mem_map_of_mem (f := fun e : MapEntry => (e.key, e.val)) he
  obtain ⟨x, hx, hxe⟩ := List.mem_map.1 this
  simp only [Prod.mk.injEq] at hxe
  exact ⟨x, hx, hxe.1.symm, hxe.2.symm⟩
theorem of_entry {arr : Array MapEntry} (hm : arr.toList.map (fun e => (e.key, e.val)) = es.map (fun x => (Value.int .i64 x.1, x.2))) {x : Int × Value} (hx : x ∈ es) : ∃ e ∈ arr.toList, e.key = .int .i64 x.1 ∧ e.val = x.2 := by
  have : (Value.int .i64 x.1, x.2) ∈ arr.toList.map (fun e => (e.key, e.val)) := hm ▸ List.mem_map_of_mem (f := fun x : Int × Value => (Value.int .i64 x.1, x.2)) hx
  obtain ⟨e, he, hxe⟩ := List.mem_map.1 this
  simp only [Prod.mk.injEq] at hxe
  exact ⟨e, he, hxe⟩

theorem key_born {arr : Array MapEntry} (hm : arr.toList.map (fun e => (e.key, e.val)) = es.map (fun x => (Value.int .i64 x.1, x.2))) (hnd : (es.map (·.1)).Nodup) {e e' : MapEntry} (he : e ∈ arr.toList) (he' : e' ∈ arr.toList) {c : Int} (h1 : e.key = .int .i64 c) (h2 : e'.key = .int .i64 c) : e = e' := by
  obtain ⟨i, hi, rfl⟩ := List.getElem_of_mem he
  obtain ⟨j, hj, rfl⟩ := List.getElem_of_mem he'
  have key : ∀ (i : Nat) (hi : i < arr.toList.length), arr.toList[i].key = .int .i64 c → (es.map (·.1))[i]? = some c := by
    intro i hi h
    have h3 := congrArg (fun l => l[i]?) hm
    simp only [List.getElem?_map, List.getElem?_eq_getElem hi, Option.map_some, h] at h3
    cases hx : es[i]? with
    | none => rw [hx] at h3; simp at h3
    | some x => rw [hx] at h3; simp at h3; simp [hx, h3.1]
  have k1 := key i hi h1
  have k2 := key j hj h2
  have hli := (List.getElem?_eq_some_iff.1 k1).1
  have hlj := (List.getElem?_eq_some_iff.1 k2).1
  have e1 := (List.getElem?_eq_some_iff.1 k1).2
  have e2 := (List.getElem?_eq_some_iff.1 k2).2
  rcases Nat.lt_trichotomy i j with h | h | h
  · exact absurd (e1.trans e2.symm) (List.pairwise_iff_getElem.1 hnd i j hli hlj h)
  · subst h; rfl
  · exact absurd (e2.trans e1.symm) (List.pairwise_iff_getElem.1 hnd j i hlj hli h)

theorem MapI.range {z : Value} (T : MapT P tm k e z) (h : MapI w bm es) :
    (Instr.range tm (.map (some bm))).run P w = .ok (.pointer (some ⟨w.heap.size, 0, none⟩)) (w.alloc (.mapIter (some bm) ((h.choose_spec).choose) #[] ((h.choose_spec).choose))) ∧ RangeI (w.alloc (.mapIter (some bm) ((h.choose_spec).choose) #[] ((h.choose_spec).choose))) w.heap.size bm es [] := by
  obtain ⟨hb, hm, hnd, hborn, hbn⟩ := h.choose_spec.choose_spec
  refine ⟨run_range_map w tm k e bm _ _ T.und hb, _, _, #[], _, blk_alloc hb _, blk_new w _, hm, hnd, hborn, Nat.le_refl _, hbn, by simp⟩

theorem RangeI.next {r : Nat} {done : List Int} (ty : TypeId) (h : RangeI w r bm es done) :
    ((∀ x ∈ es, x.1 ∈ done) ∧ (Instr.next (.pointer (some ⟨r, 0, none⟩)) false ty).run P w = .ok (.tuple #[.bool false]) w) ∨
    ∃ x ∈ es, x.1 ∉ done ∧ ∃ w', (Instr.next (.pointer (some ⟨r, 0, none⟩)) false ty).run P w = .ok (.tuple #[.bool true, .int .i64 x.1, x.2]) w' ∧ RangeI w' r bm es (x.1 :: done) ∧ Kp (fun j => j = r) w w' ∧
      (Instr.entry (.pointer (some ⟨r, 0, none⟩))).run P w' = .ok (.tuple #[.int .i64 x.1, x.2]) w' := by
  have hrb := h.ne
  obtain ⟨arr, clk, seen, since, a1, a2, a3, a4, a5, a6, a7, a8⟩ := h
  rcases run_next_at (P := P) w ty r bm since clk seen arr clk a2 a1 a5 a6 with ⟨h0, hr⟩ | ⟨e, he, w1, hw1, hr⟩
  · refine .inl ⟨fun x hx => ?_, hr⟩
    obtain ⟨e, he, hk, _⟩ := of_entry a3 hx
    exact (a8 e he x.1 hk).1 (all_seen arr seen h0 e he)
  · obtain ⟨he1, he2⟩ := mem_left he
    obtain ⟨x, hx, hk, hv⟩ := entry_of a3 he1
    have hb1 : w1.heap[bm]? = some (.map arr clk) := by rcases hw1 with rfl | rfl <;> exact a1
    have hr1 : w1.heap[r]? = some (.mapIter (some bm) since seen clk) := by rcases hw1 with rfl | rfl <;> exact a2
    have hk1 : Kp (fun j => j = r) w w1 := by
      rcases hw1 with rfl | rfl
      · exact Kp.refl _ _
      · exact (Kp.refl _ _).drew
    have hkk : Kp (fun j => j = r) w (ChangeMaps.setBlock w1 r (.mapIter (some bm) since (seen.push e.born) clk)) := hk1.setBlk (fun _ => rfl) _
    have hb2 : (ChangeMaps.setBlock w1 r (.mapIter (some bm) since (seen.push e.born) clk)).heap[bm]? = some (.map arr clk) := by
      simp [ChangeMaps.setBlock, hrb, hb1]
    have hr2 : (ChangeMaps.setBlock w1 r (.mapIter (some bm) since (seen.push e.born) clk)).heap[r]? = some (.mapIter (some bm) since (seen.push e.born) clk) := by
      have := lt_of_block hr1
      simp [ChangeMaps.setBlock, this]
    refine .inr ⟨x, hx, fun hd => ?_, _, by rw [← hk, ← hv]; exact hr, ⟨arr, clk, seen.push e.born, since, hb2, hr2, a3, a4, a5, a6, a7, ?_⟩, hkk, ?_⟩
    · have := (a8 e he1 x.1 hk).2 hd
      rw [he2] at this
      cases this
    · intro e' he' c hc
      rw [contains_push, Bool.or_eq_true, a8 e' he' c hc, List.mem_cons]
      constructor
      · rintro (h | h)
        · exact .inr h
        · have hbe : e'.born = e.born := by simpa using h
          obtain rfl := born_inj a7 he' he1 hbe
          rw [hk] at hc
          simp at hc
          exact .inl hc.symm
      · rintro (rfl | h)
        · exact .inr (by rw [key_born a3 a4 he' he1 hc hk]; simp)
        · exact .inl h
    · have := run_entry_at (P := P) _ r bm since seen arr clk e hr2 hb2 he1 a7
      rw [this, hk, hv]

theorem RangeI.upd {z : Value} {r : Nat} {done : List Int} (T : MapT P tm k e z) (h : RangeI w r bm es done) (c : Int) (hc : c ∈ es.map (·.1)) (v : Value) :
    ∃ w', (Instr.mapUpdate tm (.map (some bm)) (.int .i64 c) v).run P w = .ok () w' ∧ RangeI w' r bm (updV es c v) done ∧ Kp (fun j => j = bm) w w' := by
  have hrb := h.ne
  obtain ⟨arr, clk, seen, since, hb, hit, hm, hnd, hborn, hsc, hbn, hseen⟩ := h
  have hlt := lt_of_block hb
  have hf := findNow_I c arr.toList es 0 hm
  have hck := run_checkKey (P := P) (k := k) T.key false 9999 c w
  cases hr : findI c es 0 with
  | none => exact absurd hc (findI_none hr).1
  | some q =>
    obtain ⟨j, u⟩ := q
    rw [hr] at hf
    obtain ⟨hj, hu⟩ := findI_some hr
    obtain ⟨e0, he0, hek⟩ : ∃ e0, arr[j]? = some e0 ∧ e0.key = .int .i64 c := by
      have : (arr.toList.map (fun e => (e.key, e.val)))[j]? = some (Value.int .i64 c, u) := by rw [hm]; simp [hj]
      rw [List.getElem?_map] at this
      simp only [Option.map_eq_some_iff, Prod.mk.injEq] at this
      obtain ⟨e0, h1, h2, _⟩ := this
      exact ⟨e0, by simpa using h1, h2⟩
    have hjl : j < arr.size := (Array.getElem?_eq_some_iff.1 he0).1
    have hje : arr[j] = e0 := (Array.getElem?_eq_some_iff.1 he0).2
    have hkts : (Instr.keyThatStays (.int .i64 c) (.int .i64 c)).run P w = .ok (.int .i64 c) w := by simp [Instr.keyThatStays, Instr.sameBits]
    have hl : (arr.modify j fun e => { e with key := .int .i64 c, val := v }).toList = arr.toList.set j { e0 with key := .int .i64 c, val := v } := by
      apply List.ext_getElem?
      intro i
      rw [Array.getElem?_toList, Array.getElem?_modify, List.getElem?_set]
      by_cases hij : j = i
      · subst hij; simp [hje, hjl]
      · simp [hij]
    have he0m : e0 ∈ arr.toList := by simpa using Array.mem_of_getElem? he0
    refine ⟨{ w with heap := w.heap.setIfInBounds bm (.map (arr.modify j fun e => { e with key := .int .i64 c, val := v }) clk) }, ?_, ?_, (Kp.refl (fun j => j = bm) w).setBlk (fun _ => rfl) _⟩
    · simp only [Instr.mapUpdate, Instr.findKey]
      simp [run_underlying T.und, run_underlying T.key, MapKept.run_getObj_map hb, hck, hf, he0, hek, hkts]
      simp [setObj, Sem.run, hb]
    · refine ⟨arr.modify j fun e => { e with key := .int .i64 c, val := v }, clk, seen, since, by simp [hlt], by simp [Ne.symm hrb, hit], ?_, ?_, ?_, hsc, ?_, ?_⟩
      · rw [hl, List.map_set, hm, hu, List.map_set]
      · rw [hu, List.map_set]
        have : (es.map (·.1)).set j c = es.map (·.1) := by
          apply List.ext_getElem?
          intro i
          rw [List.getElem?_set]
          by_cases hij : j = i
          · subst hij; simp [hj]; exact (List.getElem?_eq_some_iff.1 hj).1
          · simp [hij]
        rw [this]; exact hnd
      · intro e he
        rw [hl] at he
        rcases List.mem_or_eq_of_mem_set he with h | rfl
        · exact hborn e h
        · exact hborn e0 he0m
      · rw [hl, List.map_set]
        have : (arr.toList.map (·.born)).set j e0.born = arr.toList.map (·.born) := by
          apply List.ext_getElem?
          intro i
          rw [List.getElem?_set]
          by_cases hij : j = i
          · subst hij; simp [hje, hjl]
          · simp [hij]
        rw [this]; exact hbn
      · intro e he c' hc'
        rw [hl] at he
        rcases List.mem_or_eq_of_mem_set he with h | rfl
        · exact hseen e h c' hc'
        · simp only at hc'
          exact hseen e0 he0m c' (hek.trans hc')
end
end Go.Proofs.YtmipnicdlldjnaaGreatDoor

namespace Go.Proofs.YtmipnicdlldjnaaGreatDoor
set_option linter.unusedVariables false
set_option linter.unusedSimpArgs false
open Go.RowKit

theorem del_erase {c : Int} {u : Value} : ∀ {es : List (Int × Value)} {j : Nat}, (es.map (·.1)).Nodup → es[j]? = some (c, u) → delV es c = es.eraseIdx j
  | [], _, _, h => by simp at h
  | x :: xs, 0, hn, h => by
    simp at h
    subst h
    simp only [List.map_cons, List.nodup_cons] at hn
    unfold delV
    rw [List.filter_cons]
    simp only [beq_self_eq_true, Bool.not_true, Bool.false_eq_true, if_false, List.eraseIdx_cons_zero]
    rw [List.filter_eq_self]
    intro y hy
    have : y.1 ≠ c := fun e => hn.1 (by rw [← e]; exact List.mem_map_of_mem hy)
    simp [this]
  | x :: xs, j + 1, hn, h => by
    simp only [List.map_cons, List.nodup_cons] at hn
    have h2 : xs[j]? = some (c, u) := by simpa using h
    have hne : x.1 ≠ c := fun e => hn.1 (by rw [e]; exact List.mem_map_of_mem (f := (·.1)) (List.mem_of_getElem? h2))
    unfold delV
    rw [List.filter_cons, if_pos (by simp [hne]), List.eraseIdx_cons_succ]
    exact congrArg _ (del_erase hn.2 h2)
theorem del_none {c : Int} {es : List (Int × Value)} (h : c ∉ es.map (·.1)) : delV es c = es := by
  unfold delV
  rw [List.filter_eq_self]
  intro y hy
  have : y.1 ≠ c := fun e => h (by rw [← e]; exact List.mem_map_of_mem hy)
  simp [this]

theorem map_eraseIdx' {α β : Type} (f : α → β) : ∀ (l : List α) (i : Nat), (l.eraseIdx i).map f = (l.map f).eraseIdx i
  | [], _ => rfl
  | _ :: _, 0 => rfl
  | x :: xs, i + 1 => congrArg (f x :: ·) (map_eraseIdx' f xs i)
section
variable {P : Program} {w w' : World} {bm : Nat} {es : List (Int × Value)} {tm k e : TypeId}
theorem MapI.del {z : Value} (T : MapT P tm k e z) (h : MapI w bm es) (c : Int) :
    ∃ w', (∀ ty, (Builtin.delete_ #[tm, k] ty #[.map (some bm), .int .i64 c]).run P w = .ok (.tuple #[]) w') ∧ MapI w' bm (delV es c) ∧ Kp (fun j => j = bm) w w' := by
  obtain ⟨arr, clk, hb, hm, hnd, hborn, hbn⟩ := h
  have hlt := lt_of_block hb
  have hf := findNow_I c arr.toList es 0 hm
  have hck := run_checkKey (P := P) (k := k) T.key arr.isEmpty 9999 c w
  cases hr : findI c es 0 with
  | none =>
    rw [hr] at hf
    obtain ⟨hnc, _⟩ := findI_none hr
    refine ⟨{ w with heap := w.heap.setIfInBounds bm (.map arr clk) }, fun ty => ?_, ?_, (Kp.refl (fun j => j = bm) w).setBlk (fun _ => rfl) _⟩
    · simp only [Builtin.delete_, Instr.findKey]
      simp [run_underlying T.und, run_underlying T.key, MapKept.run_getObj_map hb, hck, hf]
      simp [setObj, Sem.run, hb]
    · rw [del_none hnc]
      exact ⟨arr, clk, by simp [hlt], hm, hnd, hborn, hbn⟩
  | some r =>
    obtain ⟨j, u⟩ := r
    rw [hr] at hf
    obtain ⟨hj, _⟩ := findI_some hr
    have hjs : j < arr.size := by
      have h1 : j < es.length := (List.getElem?_eq_some_iff.1 hj).1
      have h2 := congrArg List.length hm
      simp at h2
      omega
    have hl : (arr.eraseIdxIfInBounds j).toList = arr.toList.eraseIdx j := by
      unfold Array.eraseIdxIfInBounds
      rw [dif_pos hjs]
      simp
    refine ⟨{ w with heap := w.heap.setIfInBounds bm (.map (arr.eraseIdxIfInBounds j) clk) }, fun ty => ?_, ?_, (Kp.refl (fun j => j = bm) w).setBlk (fun _ => rfl) _⟩
    · simp only [Builtin.delete_, Instr.findKey]
      simp [run_underlying T.und, run_underlying T.key, MapKept.run_getObj_map hb, hck, hf]
      simp [setObj, Sem.run, hb]
    · rw [del_erase hnd hj]
      refine ⟨_, _, by simp [hlt]; exact ⟨rfl, rfl⟩, ?_, ?_, ?_, ?_⟩
      · rw [hl, map_eraseIdx', map_eraseIdx', hm]
      · rw [map_eraseIdx']; exact hnd.sublist (List.eraseIdx_sublist _ _)
      · intro e he; rw [hl] at he; exact hborn e ((List.eraseIdx_sublist _ _).subset he)
      · rw [hl, map_eraseIdx']; exact hbn.sublist (List.eraseIdx_sublist _ _)
theorem MapI.len {z : Value} (T : MapT P tm k e z) (h : MapI w bm es) (ty : TypeId) : (Builtin.len_ #[tm] ty #[.map (some bm)]).run P w = .ok (goInt es.length) w := by
  obtain ⟨arr, clk, hb, hm, _⟩ := h
  have h2 := congrArg List.length hm
  simp at h2
  simp [Builtin.len_, run_underlying T.und, MapKept.run_getObj_map hb, h2]

/-! ### Sets of ints -/
def SetI (w : World) (bm : Nat) (L : List Int) : Prop := MapI w bm (L.map fun x => (x, Value.bool true))
theorem SetI.kp {S : Nat → Prop} {L : List Int} (h : SetI w bm L) (hk : Kp S w w') (hn : ¬ S bm) : SetI w' bm L := MapI.kp h hk hn
theorem SetI.made (w : World) : SetI (w.alloc (.map #[] 0)) w.heap.size [] := MapI.made w
theorem findI_set (c : Int) : ∀ (L : List Int) (i : Nat), (findI c (L.map fun x => (x, Value.bool true)) i).map (·.2) = if c ∈ L then some (Value.bool true) else none
  | [], i => rfl
  | x :: xs, i => by
    simp only [List.map_cons, findI]
    by_cases h : c = x
    · subst h; simp
    · rw [if_neg (by simpa using h), findI_set c xs (i + 1)]; simp [h]
theorem getV_set (c : Int) (L : List Int) : getV (L.map fun x => (x, Value.bool true)) c (.bool false) = .bool (decide (c ∈ L)) := by
  unfold getV
  rw [findI_set]
  by_cases h : c ∈ L
  · rw [if_pos h, decide_eq_true h]; rfl
  · rw [if_neg h, decide_eq_false h]; rfl
def addS (L : List Int) (c : Int) : List Int := if c ∈ L then L else L ++ [c]
theorem updV_set (c : Int) : ∀ (L : List Int), updV (L.map fun x => (x, Value.bool true)) c (.bool true) = (addS L c).map fun x => (x, Value.bool true)
  | [] => rfl
  | x :: xs => by
    simp only [List.map_cons, updV]
    by_cases h : c = x
    · subst h; simp [addS]
    · rw [if_neg (by simpa using h), updV_set c xs]
      unfold addS
      by_cases h2 : c ∈ xs
      · simp [h, h2]
      · simp [h, h2]
theorem delV_set (c : Int) (L : List Int) : delV (L.map fun x => (x, Value.bool true)) c = (L.filter fun x => x != c).map fun x => (x, Value.bool true) := by
  unfold delV
  rw [List.filter_map]
  rfl
theorem SetI.look {L : List Int} (T : MapT P tm k e (.bool false)) (h : SetI w bm L) (c : Int) : (Instr.lookup tm (.map (some bm)) (.int .i64 c) false).run P w = .ok (.bool (decide (c ∈ L))) w := by rw [← getV_set]; exact MapI.look T h c
theorem SetI.add {L : List Int} (T : MapT P tm k e (.bool false)) (h : SetI w bm L) (c : Int) : ∃ w', (Instr.mapUpdate tm (.map (some bm)) (.int .i64 c) (.bool true)).run P w = .ok () w' ∧ SetI w' bm (addS L c) ∧ Kp (fun j => j = bm) w w' := by
  obtain ⟨w', h1, h2, h3⟩ := MapI.upd T h c (.bool true)
  exact ⟨w', h1, by unfold SetI; rw [← updV_set]; exact h2, h3⟩
theorem SetI.del {L : List Int} (T : MapT P tm k e (.bool false)) (h : SetI w bm L) (c : Int) : ∃ w', (∀ ty, (Builtin.delete_ #[tm, k] ty #[.map (some bm), .int .i64 c]).run P w = .ok (.tuple #[]) w') ∧ SetI w' bm (L.filter fun x => x != c) ∧ Kp (fun j => j = bm) w w' := by
  obtain ⟨w', h1, h2, h3⟩ := MapI.del T h c
  exact ⟨w', h1, by unfold SetI; rw [← delV_set]; exact h2, h3⟩
theorem SetI.len {L : List Int} (T : MapT P tm k e (.bool false)) (h : SetI w bm L) (ty : TypeId) : (Builtin.len_ #[tm] ty #[.map (some bm)]).run P w = .ok (goInt L.length) w := by
  have := MapI.len T h ty
  rwa [List.length_map] at this
theorem SetI.lt {L : List Int} (h : SetI w bm L) : bm < w.heap.size := MapI.lt h
end
end Go.Proofs.YtmipnicdlldjnaaGreatDoor

namespace Go.Proofs.YtmipnicdlldjnaaGreatDoor
set_option linter.unusedVariables false
set_option linter.unusedSimpArgs false
open Go.RowKit

theorem mapB : MapT Tryz.prog 127 3 4 (.bool false) := ⟨by kernel_rfl, by kernel_rfl, fun w => by kernel_rfl⟩
structure JnW (W H : Nat) (s : ByteArray) (bf bm : Nat) (w0 : World) (v : Value) (L N : List Nat) (w : World) : Prop where
  box : w.heap[bf]? = some (.cells #[.int .i64 (W : Int), .int .i64 (H : Int), .string s] 23 (0, 0))
  set : SetI w bm (ints L)
  own : Own IK 3 w v (ints N)
  ge : ∀ g, v.ownBlock = some g → w0.heap.size ≤ g
  kp : Kp (fun k => k = bm) w0 w
  lt : bf < w0.heap.size ∧ bm < w0.heap.size ∧ bf ≠ bm
section
variable {W H bf bm : Nat} {s : ByteArray} {w0 w w1 w' : World} {v v' : Value} {L L' N N' : List Nat}
theorem JnW.no (h : JnW W H s bf bm w0 v L N w) (hk : Kp No w w') : JnW W H s bf bm w0 v L N w' :=
  ⟨hk.blk h.box (no_no _), h.set.kp hk (no_no _), h.own.kpNo hk, h.ge, h.kp.no hk, h.lt⟩
theorem JnW.nm (h : JnW W H s bf bm w0 v L N w) {g : Nat} (hg : v.ownBlock = some g) : g ≠ bm ∧ g ≠ bf := by
  have := h.ge g hg; have := h.lt; omega
theorem JnW.map (h : JnW W H s bf bm w0 v L N w) (hs : SetI w' bm (ints L')) (hk : Kp (fun k => k = bm) w w') : JnW W H s bf bm w0 v L' N w' :=
  ⟨hk.blk h.box h.lt.2.2, hs, h.own.kp hk (fun g hg => (h.nm hg).1), h.ge, h.kp.trans hk, h.lt⟩
theorem JnW.app {n : Nat} (h : JnW W H s bf bm w0 v L N w) (hk : Kp No w w1) (k1 : Own IK 3 w' v' (ints N')) (k2 : Kp (fun k => v.ownBlock = some k) w1 w') (k3 : ∀ g, v'.ownBlock = some g → v.ownBlock = some g ∨ n ≤ g) (hn : w.heap.size ≤ n) : JnW W H s bf bm w0 v' L N' w' := by
  have h1 := h.no hk
  have hs := h.kp.size
  refine ⟨k2.blk h1.box (fun e => (h.nm e).2 rfl), h1.set.kp k2 (fun e => (h.nm e).1 rfl), k1, fun g hg => ?_, h1.kp.trans' k2 fun k hk e => by have := h.ge k e; omega, h.lt⟩
  rcases k3 g hg with e | e
  · exact h.ge g e
  · omega
theorem JnW.one (h : JnW W H s bf bm w0 v L N w) (k : Nat) : JnW W H s bf bm w0 (.slice (some ⟨w.heap.size, 0, none⟩) 1 1) L [k] (w.alloc (.cells #[.int .i64 (k : Int)] 3)) := by
  have h1 := h.no ((Kp.refl No w).alloc (.cells #[.int .i64 (k : Int)] 3))
  refine ⟨h1.box, h1.set, Own.lit IK 3 w [.int .i64 (k : Int)] [(k : Int)] rfl (by unfold maxLen; simp), fun g hg => ?_, h1.kp, h.lt⟩
  have := h.kp.size
  simp [Value.ownBlock] at hg
  omega
end
theorem JnW.cut {W H bf bm : Nat} {s : ByteArray} {w0 w : World} {L N : List Nat} {c2 g p cap m : Nat} (h : JnW W H s bf bm w0 (.slice (some ⟨g, 0, none⟩) p cap) L (N ++ [c2]) w) (hm : m = N.length) : JnW W H s bf bm w0 (.slice (some ⟨g, 0, none⟩) m cap) L N w ∧ w.cell? ⟨g, m, none⟩ = some (.int .i64 (c2 : Int)) ∧ m < cap ∧ p = m + 1 := by
  rcases h.own.b with ⟨hv, _⟩ | ⟨g', cap', hv, hcm, hlc, hob⟩
  · simp at hv
  simp only [Value.slice.injEq, Option.some.injEq, Addr.mk.injEq] at hv
  obtain ⟨⟨rfl, _, _⟩, rfl, rfl⟩ := hv
  have hl : (ints (N ++ [c2])).length = m + 1 := by rw [ints_len]; simp [hm]
  have ht : (ints (N ++ [c2])).take m = ints N := by
    unfold ints; rw [← List.map_take, hm, List.take_left]
  have ho := (hob.take m).own hcm
  rw [ht, ints_len, ← hm] at ho
  refine ⟨⟨h.box, h.set, ho, h.ge, h.kp, h.lt⟩, hob.cells m _ ?_, by omega, hl⟩
  have hg : (ints (N ++ [c2]))[m]? = some (c2 : Int) := by
    unfold ints; rw [List.getElem?_map, hm, List.getElem?_append_right (Nat.le_refl _)]; simp
  have := IK.encs_get (ints (N ++ [c2])) m 0 _ hg (by decide)
  simpa [IK] using this
theorem snoc_cases (N : List Nat) : N = [] ∨ ∃ l b, N = l ++ [b] := by
  rcases List.eq_nil_or_concat N with h | ⟨l, b, h⟩
  · exact .inl h
  · exact .inr ⟨l, b, by rw [h, List.concat_eq_append]⟩
theorem ints_snoc (L : List Nat) (k : Nat) : ints (L ++ [k]) = ints L ++ [(k : Int)] := by simp [ints]
theorem ints_mem {L : List Nat} {k : Nat} : (k : Int) ∈ ints L ↔ k ∈ L := by
  unfold ints
  rw [List.mem_map]
  constructor
  · rintro ⟨a, ha, e⟩
    obtain rfl : a = k := by omega
    exact ha
  · exact fun h => ⟨k, h, rfl⟩
theorem ints_filter (L : List Nat) (k : Nat) : (ints L).filter (fun x => x != (k : Int)) = ints (L.filter fun x => x != k) := by
  unfold ints
  rw [List.filter_map]
  congr 1
  apply List.filter_congr
  intro x _
  simp only [Function.comp, bne]
  congr 1
  by_cases e : x = k
  · subst e; simp
  · rw [beq_eq_false_iff_ne.2 e, beq_eq_false_iff_ne.2 (by omega)]
theorem ints_get {L : List Nat} {i x : Nat} (h : L[i]? = some x) : (ints L)[i]? = some (x : Int) := by unfold ints; rw [List.getElem?_map, h]; rfl
theorem addS_new {L : List Nat} {k : Nat} (h : k ∉ L) : addS (ints L) (k : Int) = ints (L ++ [k]) := by unfold addS; rw [if_neg (fun e => h (ints_mem.1 e)), ints_snoc]
end Go.Proofs.YtmipnicdlldjnaaGreatDoor

namespace Go.Proofs.YtmipnicdlldjnaaGreatDoor
set_option linter.unusedVariables false
set_option linter.unusedSimpArgs false
open Go.RowKit

def JoinedR (W H : Nat) (s : ByteArray) (w : World) (e : Ending) (w' : World) : Prop := ∃ d : Bool, e = .returned (.bool d) ∧ (d = true ↔ joinedP W H s) ∧ Kp No w w'
set_option maxHeartbeats 2000000 in
set_option maxRecDepth 100000 in
theorem joined_any (W H : Nat) (s : ByteArray) (hW1 : 1 ≤ W) (hW : W ≤ 16) (hH1 : 1 ≤ H) (hH : H ≤ 16) (hs : s.size = W * H) (w : World) :
    Calls Tryz.prog 55 #[(Flr.mk W H s).val] w (JoinedR W H s w) := by
  unfold Flr.val
  have hs256 : s.size ≤ 256 := by rw [hs]; exact Nat.mul_le_mul hW hH
  have HS := Lib.hid hs
  obtain ⟨n, hn⟩ : ∃ n, n = s.size := ⟨_, rfl⟩
  have hnI : ((s.size : Nat) : Int) = (n : Int) := by omega
  have HN := Lib.hid hn
  have hn256 : n ≤ 256 := by omega
  have hmm := @run_makeMap Tryz.prog
  clear hs hn hs256
  go_enter Tryz.func55, Tryz.ntmps55
  go_wp2
  obtain ⟨bf, hbf⟩ : ∃ bf, bf = w.heap.size := ⟨_, rfl⟩
  obtain ⟨bm, hbm⟩ : ∃ bm, bm = w.heap.size + 1 := ⟨_, rfl⟩
  obtain ⟨w0, hw0⟩ : ∃ w0, w0 = (w.alloc (.cells #[.int .i64 (W : Int), .int .i64 (H : Int), .string s] 23)).alloc (.map #[] 0) := ⟨_, rfl⟩
  have K0 := Lib.hid (show Kp No w w0 by rw [hw0]; exact ((Kp.refl _ _).alloc _).alloc _)
  have J0 : Hid (JnW W H s bf bm w0 (.slice none 0 0) (lanesTo s 0) [] w0) := Lib.hid (by
    rw [hw0, hbf, hbm]
    refine ⟨blk_alloc (blk_new w _) _, ?_, Own.nil _ _ _, fun g hg => by simp [Value.ownBlock] at hg, Kp.refl _ _, by simp; omega, by simp, by omega⟩
    show SetI _ _ []
    have := SetI.made (w.alloc (.cells #[.int .i64 (W : Int), .int .i64 (H : Int), .string s] 23))
    simpa using this)
  have BM := Lib.hid (show ∀ j, j < w.heap.size → ¬ j = bm by intro j hj e; omega)
  rw [← hbm, ← hbf, ← hw0]
  clear hbf hbm hw0 hmm
  go_loopg [4, 13] (n + 1) (fun g2 v kk wr => ∃ k : Nat, g2 = n + 1 - k ∧ kk = .int .i64 k ∧ k ≤ n ∧ ∃ N : List Nat, N.length ≤ 1 ∧ (∀ i ∈ N, i < k ∧ kdS s i = 2) ∧ (N = [] → lanesTo s k = []) ∧ JnW W H s bf bm w0 v (lanesTo s k) N wr)
  case atStart => exact ⟨0, rfl, rfl, by omega, [], by simp, by simp, fun _ => rfl, J0.out⟩
  case round =>
    obtain ⟨k, hgk, rfl, hk, N, hN1, hN2, hN3, hj⟩ := hrel
    obtain ⟨A, c, rfl⟩ := hj.own.rd.shape
    have HJ := Lib.hid hj; have HN1 := Lib.hid hN1; have HN2 := Lib.hid hN2; have HN3 := Lib.hid hN3
    clear hj hN1 hN2 hN3
    by_cases hlt : k < n
    · have hltI : (k : Int) < (n : Int) := by omega
      have hwk : IntKind.i64.wrap ((k : Int) + 1) = (k : Int) + 1 := IntWalk.i64_in _ (by omega)
      have hks : k < s.size := by have := HN.out; omega
      have hksI : (k : Int) < ((s.size : Nat) : Int) := by omega
      have hbt := bt_at s k
      have hb2 := blk_cell HJ.out.box 2
      have hb2' : wr.cell? ⟨bf, 2, none⟩ = some (.string s) := hb2
      obtain ⟨K, hK⟩ : ∃ K, K = kindB (bt s k) := ⟨_, rfl⟩
      have hkd := fun w => kind_any (bt s k) w
      rw [← hK] at hkd
      have HK := Lib.hid (show K = kdS s k from hK)
      have HKD := Lib.hid hkd
      clear hK hkd hb2
      by_cases h2 : K = 2
      · have h2b : ((K : Int) == 2) = true := by simp [h2]
        have hkl : kdS s k = 2 := by rw [← HK.out, h2]
        have HKL := Lib.hid hkl
        have hnot : k ∉ lanesTo s k := fun e => by have := (lanesTo_mem.1 e).1; omega
        obtain ⟨w1, hup, set1, kp1⟩ := HJ.out.set.add mapB (k : Int)
        rw [addS_new hnot, ← lanesTo_in hkl] at set1
        have J1 := Lib.hid ((HJ.out.map set1 kp1).one k)
        clear set1 kp1 hnot hkl h2
        go_wp2_with (go_at_call 51; refine (HKD.out _).mono ?_; rintro e wz ⟨rfl, rfl⟩)
        go_roundg (n + 1 - (k + 1))
        case measure => omega
        case rel => exact ⟨k + 1, rfl, by go_num, by omega, [k], by simp, fun i hi => by rw [List.mem_singleton.1 hi]; exact ⟨by omega, HKL.out⟩, fun e => by simp at e, J1.out⟩
      · have h2b : ((K : Int) == 2) = false := by simp; omega
        have hkl : kdS s k ≠ 2 := by rw [← HK.out]; exact h2
        have HKL := Lib.hid (lanesTo_out hkl)
        clear hkl h2
        go_wp2_with (go_at_call 51; refine (HKD.out _).mono ?_; rintro e wz ⟨rfl, rfl⟩)
        go_roundg (n + 1 - (k + 1))
        case measure => omega
        case rel => exact ⟨k + 1, rfl, by go_num, by omega, N, HN1.out, fun i hi => ⟨by have := (HN2.out i hi).1; omega, (HN2.out i hi).2⟩, fun e => by rw [HKL.out]; exact HN3.out e, by rw [HKL.out]; exact HJ.out⟩
    · obtain rfl : k = n := by omega
      have hd0 : ¬ (k : Int) < (k : Int) := by omega
      clear hlt
      rcases N with _ | ⟨l, N'⟩
      · have hno : ¬ joinedP W H s := by
          rintro ⟨⟨i, hi⟩, _⟩
          have h1 := HN3.out rfl
          have h2 : i ∈ lanesTo s k := lanesTo_mem.2 ⟨by have := hi.1; have := HN.out; omega, hi.2⟩
          rw [h1] at h2
          simp at h2
        have HNO := Lib.hid hno
        clear hno
        go_wp2
        go_ret
        exact ⟨false, rfl, by simp [HNO.out], K0.out.trans' HJ.out.kp (fun j hj e => absurd e (BM.out j hj))⟩
      · obtain rfl : N' = [] := by have := HN1.out; simp at this; exact this
        have hl : laneI s l := ⟨by have := (HN2.out l (by simp)).1; have := HN.out; omega, (HN2.out l (by simp)).2⟩
        rcases HJ.out.own.b with ⟨_, he⟩ | ⟨g, cap, hv, hcm, hlc, hob⟩
        · simp [ints] at he
        simp only [Value.slice.injEq] at hv
        obtain ⟨rfl, _, rfl⟩ := hv
        have hc0 : wr.cell? ⟨g, 0, none⟩ = some (.int .i64 (l : Int)) := hob.cells 0 _ rfl
        obtain ⟨w2, hdel, set2, kp2⟩ := HJ.out.set.del mapB (l : Int)
        rw [ints_filter] at set2
        have J2 := HJ.out.map set2 kp2
        have D0 := Dfs.start (W := W) (H := H) hl
        have hLn : lanesTo s k = lanesTo s s.size := by rw [← HN.out]
        rw [hLn] at J2
        have HJ2 := Lib.hid J2; have HD0 := Lib.hid D0
        have HML := Lib.hid (show ((lanesTo s s.size).filter fun x => x != l).length ≤ 256 from Nat.le_trans (List.length_filter_le _ _) (Nat.le_trans (lanesTo_len _ _) (by have := HN.out; omega)))
        clear set2 kp2 J2 D0 hLn hl hob hlc hcm
        go_wp2
        obtain ⟨wb, rfl⟩ : ∃ wb : World, wb = wr := ⟨_, rfl⟩
        go_loopg [4] (2 * ((lanesTo s s.size).filter fun x => x != l).length + 1) (fun g2 v wr => ∃ L N : List Nat, g2 = 2 * L.length + N.length ∧ N.length + L.length ≤ 300 ∧ JnW W H s bf bm w0 v L N wr ∧ Dfs W H s l L N)
        case atStart => exact ⟨_, [l], rfl, by have := HML.out; simp; omega, HJ2.out, HD0.out⟩
        case round =>
          obtain ⟨L, N, hg2, hNL, hj2, hd2⟩ := hrel
          rcases snoc_cases N with rfl | ⟨N', c2, rfl⟩
          · obtain ⟨A2, q2, rfl⟩ := hj2.own.rd.shape
            have HE := Lib.hid (hd2.end_ hW1 HS.out)
            have HKP := Lib.hid hj2.kp
            have hlen := hj2.set.len mapB
            have hll : (ints L).length = L.length := ints_len L
            rw [hll] at hlen
            obtain ⟨d, hd⟩ : ∃ d : Bool, d = ((L.length : Int) == 0) := ⟨_, rfl⟩
            have hdI := hd.symm
            have HD := Lib.hid hd
            clear hj2 hd2 hd
            go_wp2
            go_ret
            refine ⟨d, rfl, ?_, K0.out.trans' HKP.out (fun j hj e => absurd e (BM.out j hj))⟩
            rw [HD.out, ← HE.out]
            simp
          · obtain ⟨A2, q2, rfl⟩ := hj2.own.rd.shape
            rcases hj2.own.b with ⟨_, he⟩ | ⟨g2, cap2, hv, hcm, _, _⟩
            · simp [ints] at he
            simp only [Value.slice.injEq] at hv
            obtain ⟨rfl, _, rfl⟩ := hv
            obtain ⟨p, hp⟩ : ∃ p, p = (ints (N' ++ [c2])).length := ⟨_, rfl⟩
            rw [← hp] at hj2 ⊢
            obtain ⟨m, hm⟩ : ∃ m, m = N'.length := ⟨_, rfl⟩
            obtain ⟨jc, hcell, hmc, hpm⟩ := hj2.cut hm
            have hc2 := (hd2.next c2 (by simp)).1
            have hcW : c2 < W * H := by rw [← HS.out]; exact hc2.1
            have di := hd2.pop
            have hp0 : (0 : Int) < (p : Int) := by omega
            have hpw : IntKind.i64.wrap ((p : Int) - 1) = (m : Int) := by rw [IntWalk.i64_in _ (by simp at hNL; omega)]; omega
            have hmp : (m : Int) < (p : Int) := by omega
            have hsl := fun w => run_slice_hi elI g2 0 p q2 m (by omega) (m : Int) rfl w
            have hb0 : wr.cell? ⟨bf, 0, none⟩ = some (.int .i64 (W : Int)) := blk_cell hj2.box 0
            have hb1 : wr.cell? ⟨bf, 1, none⟩ = some (.int .i64 (H : Int)) := blk_cell hj2.box 1
            have hb2 : wr.cell? ⟨bf, 2, none⟩ = some (.string s) := blk_cell hj2.box 2
            have JC := Lib.hid jc; have DI := Lib.hid di; have HCW := Lib.hid hcW
            have HG := Lib.hid (show 2 * L.length + N'.length + 1 = gk by rw [hg2]; simp; omega)
            have HNL := Lib.hid (show N'.length + L.length ≤ 300 by simp at hNL; omega)
            have HGE := Lib.hid (fun g (h : (Value.slice (some ⟨g2, 0, none⟩) m q2).ownBlock = some g) => jc.own.lt h)
            clear hj2 hd2 jc di hc2 hcW hp hm hmc hpm hg2 hNL hcm
            go_wp2_with fail
            refine (beside_any W H c2 s hW1 hW hH1 hH HCW.out wr).mono ?_
            rintro e w3 ⟨vB, rfl, nb⟩
            obtain ⟨AB, qB, rfl⟩ := nb.own.rd.shape
            rw [ints_len]
            obtain ⟨nB, hnB⟩ : ∃ nB, nB = (besideP W H c2).length := ⟨_, rfl⟩
            have hB4 : nB ≤ 4 := by rw [hnB, ← bsA_four]; exact bsA_len W H c2 4
            rw [ints_len, ← hnB] at nb
            rw [← hnB]
            have HNB := Lib.hid hnB
            have J3 := Lib.hid (JC.out.no nb.kp); have OB := Lib.hid nb.own
            have NE := Lib.hid (show ∀ g, (Value.slice AB nB qB).ownBlock = some g → w0.heap.size ≤ g ∧ (Value.slice (some ⟨g2, 0, none⟩) m q2).ownBlock ≠ some g by
              intro g hg
              have h1 := nb.ge g hg
              have h2 := JC.out.kp.size
              exact ⟨by omega, fun e => by have := HGE.out g e; omega⟩)
            clear nb hnB hb0 hb1 hb2 hcell hsl
            go_wp2_with fail
            obtain ⟨wc, rfl⟩ : ∃ wc : World, wc = wr := ⟨_, rfl⟩
            go_loopg [4, 52] (nB + 1) (fun g3 v jj wr => ∃ (j : Nat) (L N : List Nat), g3 = nB + 1 - j ∧ jj = .int .i64 j ∧ j ≤ nB ∧ 2 * L.length + N.length + 1 ≤ gk ∧ N.length + L.length ≤ 300 ∧ JnW W H s bf bm w0 v L N wr ∧ DfsI W H s l c2 j L N ∧ Own IK 3 wr (.slice AB nB qB) (ints (besideP W H c2)) ∧ ∀ g, (Value.slice AB nB qB).ownBlock = some g → w0.heap.size ≤ g ∧ v.ownBlock ≠ some g)
            case atStart => exact ⟨0, L, N', rfl, rfl, by omega, by have := HG.out; omega, HNL.out, J3.out, DI.out, OB.out, NE.out⟩
            case round =>
              obtain ⟨j, L2, N2, hg3, rfl, hj, hM, hNL2, jw, di, ob, ne⟩ := hrel
              obtain ⟨A3, q3, rfl⟩ := jw.own.rd.shape
              rw [ints_len] at jw ne ⊢
              obtain ⟨p3, hp3⟩ : ∃ p3, p3 = N2.length := ⟨_, rfl⟩
              rw [← hp3] at jw ne ⊢
              have hp3b : p3 ≤ 300 := by omega
              have HP3 := Lib.hid hp3
              have JW := Lib.hid jw; have DW := Lib.hid di; have OW := Lib.hid ob; have NW := Lib.hid ne; have HM := Lib.hid hM; have HL2 := Lib.hid hNL2
              clear jw di ob ne hM hNL2 hp3
              by_cases hlt : j < nB
              · have hltI : (j : Int) < (nB : Int) := by omega
                have hwj : IntKind.i64.wrap ((j : Int) + 1) = (j : Int) + 1 := IntWalk.i64_in _ (by omega)
                obtain ⟨b, hb⟩ : ∃ b, (besideP W H c2)[j]? = some b := ⟨_, List.getElem?_eq_getElem (by rw [← HNB.out]; exact hlt)⟩
                rcases OW.out.b with ⟨hv, _⟩ | ⟨gB, capB, hv, _, _, _⟩
                · simp only [Value.slice.injEq] at hv; omega
                simp only [Value.slice.injEq] at hv
                obtain ⟨rfl, hzz, rfl⟩ := hv
                clear hzz
                have hcb : wr.cell? ⟨gB, j, none⟩ = some (.int .i64 (b : Int)) := by have := OW.out.rd.intAt (ints_get hb); simpa using this
                have hlook := JW.out.set.look mapB (b : Int)
                have HBJ := Lib.hid hb
                by_cases hbL : b ∈ L2
                · rw [decide_eq_true (ints_mem.2 hbL)] at hlook
                  obtain ⟨w4, hdel, set4, kp4⟩ := JW.out.set.del mapB (b : Int)
                  rw [ints_filter] at set4
                  have J4 := Lib.hid (JW.out.map set4 kp4)
                  have O4 := Lib.hid (OW.out.kp kp4 (fun g hg e => by have e : g = bm := e; have := (NW.out g hg).1; have := JW.out.lt; omega))
                  have D4 := Lib.hid (DW.out.meet hb hbL)
                  have HLL := Lib.hid (filter_ne_lt hbL)
                  clear set4 kp4 hb hbL
                  go_wp2_with (at_builtin; refine wpl_append elI rfl (.tmp 61) (.tmp 63) rfl rfl rfl (l := ints N2) (m := [(b : Int)]) ?c1 ?c2 ?c3 ?c4 ?c5)
                  case c1 => exact J4.out.own.alloc _
                  case c2 => exact Rd.litAt IK 3 _ _ [(b : Int)] rfl (by unfold maxLen; simp) _ _ rfl rfl
                  case c3 => show (ints N2).length + 1 ≤ maxLen; rw [ints_len, ← HP3.out]; unfold maxLen; omega
                  case c4 => show ((ints N2).length + 1) * 8 ≤ _; rw [ints_len, ← HP3.out]; omega
                  case c5 =>
                    intro v' w' k1 k2 k3
                    rw [← ints_snoc] at k1
                    have J5 := J4.out.app ((Kp.refl No w4).alloc _) k1 k2 k3 (Nat.le_succ _)
                    have O5 := (O4.out.alloc (.cells #[.int .i64 (b : Int)] 3)).kp k2 (fun g hg e => (NW.out g hg).2 e)
                    have N5 : ∀ g, (Value.slice (some ⟨gB, 0, none⟩) nB qB).ownBlock = some g → w0.heap.size ≤ g ∧ v'.ownBlock ≠ some g := fun g hg => ⟨(NW.out g hg).1, fun e => by
                      rcases k3 g e with e | e
                      · exact (NW.out g hg).2 e
                      · have := O4.out.lt hg; have e : w4.heap.size + 1 ≤ g := e; omega⟩
                    obtain ⟨A5, q5, rfl⟩ := k1.rd.shape
                    have HJ5 := Lib.hid J5; have HO5 := Lib.hid O5; have HN5 := Lib.hid N5
                    clear J5 O5 N5 k1 k2 k3 hlook hdel hcb
                    go_wp2_with fail
                    go_roundg (nB + 1 - (j + 1))
                    case measure => omega
                    case rel => exact ⟨j + 1, _, N2 ++ [b], rfl, by go_num, by omega, by have := HM.out; have := HLL.out; simp; omega, by have := HL2.out; have := HLL.out; simp; omega, HJ5.out, D4.out, HO5.out, HN5.out⟩
                · rw [decide_eq_false (fun e => hbL (ints_mem.1 e))] at hlook
                  have D4 := Lib.hid (DW.out.seen hb hbL)
                  clear hb hbL
                  go_wp2_with fail
                  go_roundg (nB + 1 - (j + 1))
                  case measure => omega
                  case rel => exact ⟨j + 1, L2, N2, rfl, by go_num, by omega, HM.out, HL2.out, JW.out, D4.out, OW.out, NW.out⟩
              · obtain rfl : j = nB := by omega
                have hd0 : ¬ (j : Int) < (j : Int) := by omega
                have DE := Lib.hid (DfsI.done (by have := DW.out; rwa [HNB.out] at this))
                clear hlt
                go_wp2_with fail
                go_roundg (2 * L2.length + N2.length)
                case measure => have := HM.out; omega
                case rel => exact ⟨L2, N2, rfl, HL2.out, JW.out, DE.out⟩
end Go.Proofs.YtmipnicdlldjnaaGreatDoor

namespace Go.Proofs.YtmipnicdlldjnaaGreatDoor
set_option linter.unusedVariables false
set_option linter.unusedSimpArgs false
open Go.RowKit

def RightR (f : Flr) (w : World) (e : Ending) (w' : World) : Prop := e = .returned (.bool (rightB f)) ∧ Kp No w w'
def byTo (W H : Nat) (s : ByteArray) (c k : Nat) : Bool := ((besideP W H c).take k).any fun x => kdS s x == 2
theorem byTo_succ {W H : Nat} {s : ByteArray} {c k b : Nat} (h : (besideP W H c)[k]? = some b) : byTo W H s c (k + 1) = (byTo W H s c k || kdS s b == 2) := by
  unfold byTo; rw [List.take_add_one, h, List.any_append]; simp
theorem byTo_all {W H : Nat} {s : ByteArray} {c : Nat} (hW : 1 ≤ W) (hs : s.size = W * H) (hc : c < W * H) : byTo W H s c (besideP W H c).length = true ↔ ∃ j ∈ besideP W H c, laneI s j := by
  unfold byTo
  rw [List.take_length, List.any_eq_true]
  constructor
  · rintro ⟨x, hx, h⟩; exact ⟨x, hx, by rw [hs]; exact beside_lt hW hc hx, by simpa using h⟩
  · rintro ⟨x, hx, h⟩; exact ⟨x, hx, by simpa using h.2⟩
structure RtW (W H : Nat) (s : ByteArray) (bf : Nat) (w0 w : World) : Prop where
  box : w.heap[bf]? = some (.cells #[.int .i64 (W : Int), .int .i64 (H : Int), .string s] 23 (0, 0))
  kp : Kp No w0 w
theorem RtW.no {W H : Nat} {s : ByteArray} {bf : Nat} {w0 w w' : World} (h : RtW W H s bf w0 w) (hk : Kp No w w') : RtW W H s bf w0 w' := ⟨hk.blk h.box (no_no _), h.kp.no hk⟩
theorem right_no {f : Flr} (h : ¬ RightP f) : rightB f = false := rightB_f h

theorem right_dims (f : Flr) (w : World) (h : f.W < 1 ∨ 16 < f.W ∨ f.H < 1 ∨ 16 < f.H ∨ ((f.s.size : Int) ≠ f.W * f.H)) (hsz : f.s.size ≤ 9223372036854775807) :
    Calls Tryz.prog 33 #[f.val] w (RightR f w) := by
  have hR : rightB f = false := rightB_f fun r => by
    rcases h with h | h | h | h | h
    · exact absurd r.w1 (by omega)
    · exact absurd r.w2 (by omega)
    · exact absurd r.h1 (by omega)
    · exact absurd r.h2 (by omega)
    · exact h r.len
  have HR := Lib.hid hR
  unfold Flr.val
  obtain ⟨X, Y, s⟩ := f
  simp only at h hsz
  clear hR
  have K0 := Lib.hid ((Kp.refl No w).alloc (.cells #[.int .i64 X, .int .i64 Y, .string s] 23))
  by_cases h1 : X < 1
  · clear h
    go_enter Tryz.func33, Tryz.ntmps33
    go_wp2
    go_ret
    exact ⟨by rw [HR.out]; rfl, K0.out⟩
  by_cases h2 : 16 < X
  · clear h
    go_enter Tryz.func33, Tryz.ntmps33
    go_wp2
    go_ret
    exact ⟨by rw [HR.out]; rfl, K0.out⟩
  by_cases h3 : Y < 1
  · clear h
    go_enter Tryz.func33, Tryz.ntmps33
    go_wp2
    go_ret
    exact ⟨by rw [HR.out]; rfl, K0.out⟩
  by_cases h4 : 16 < Y
  · clear h
    go_enter Tryz.func33, Tryz.ntmps33
    go_wp2
    go_ret
    exact ⟨by rw [HR.out]; rfl, K0.out⟩
  · have h5 : (s.size : Int) ≠ X * Y := by rcases h with h | h | h | h | h <;> first | omega | exact h
    obtain ⟨P, hP⟩ : ∃ P, P = X * Y := ⟨_, rfl⟩
    have hP1 : 0 ≤ P := by rw [hP]; exact Int.mul_nonneg (by omega) (by omega)
    have hP2 : P ≤ 256 := by
      rw [hP]; exact Int.le_trans (Int.mul_le_mul_of_nonneg_right (show X ≤ 16 by omega) (by omega)) (by omega)
    have hw : IntKind.i64.wrap P = P := IntWalk.i64_in _ (by omega)
    rw [← hP] at h5
    obtain ⟨n, hn⟩ : ∃ n, n = s.size := ⟨_, rfl⟩
    have hnI : ((s.size : Nat) : Int) = (n : Int) := by omega
    rw [hnI] at h5
    have hb : ((n : Int) != P) = true := by simpa using h5
    have hP' := hP.symm
    clear h hP h5 hn hsz
    go_enter Tryz.func33, Tryz.ntmps33
    go_wp2
    go_ret
    exact ⟨by rw [HR.out]; rfl, K0.out⟩

set_option maxHeartbeats 2000000 in
set_option maxRecDepth 100000 in
theorem right_in (W H : Nat) (s : ByteArray) (hW1 : 1 ≤ W) (hW : W ≤ 16) (hH1 : 1 ≤ H) (hH : H ≤ 16) (hs : s.size = W * H) (w : World) :
    Calls Tryz.prog 33 #[(Flr.mk W H s).val] w (RightR (Flr.mk W H s) w) := by
  unfold RightR
  obtain ⟨R, hR⟩ : ∃ R, R = rightB (Flr.mk W H s) := ⟨_, rfl⟩
  rw [← hR]
  have HR := Lib.hid hR
  clear hR
  unfold Flr.val
  have hs256 : s.size ≤ 256 := by rw [hs]; exact Nat.mul_le_mul hW hH
  have HS := Lib.hid hs
  obtain ⟨n, hn⟩ : ∃ n, n = s.size := ⟨_, rfl⟩
  have hnI : ((s.size : Nat) : Int) = (n : Int) := by omega
  have hWH : (W : Int) * (H : Int) = (n : Int) := by rw [hn, hs]; simp
  have HN := Lib.hid hn
  have hn256 : n ≤ 256 := by omega
  have a1 : ¬ (W : Int) < 1 := by omega
  have a2 : ¬ (16 : Int) < (W : Int) := by omega
  have a3 : ¬ (H : Int) < 1 := by omega
  have a4 : ¬ (16 : Int) < (H : Int) := by omega
  clear hs hn hs256
  go_enter Tryz.func33, Tryz.ntmps33
  go_wp2
  obtain ⟨bf, hbf⟩ : ∃ bf, bf = w.heap.size := ⟨_, rfl⟩
  obtain ⟨w0, hw0⟩ : ∃ w0, w0 = w.alloc (.cells #[.int .i64 (W : Int), .int .i64 (H : Int), .string s] 23) := ⟨_, rfl⟩
  have R0 : Hid (RtW W H s bf w w0) := Lib.hid (by
    rw [hw0, hbf]
    exact ⟨blk_new w _, (Kp.refl _ _).alloc _⟩)
  rw [← hbf, ← hw0]
  clear hbf hw0 a1 a2 a3 a4
  go_loopg [43] (n + 1) (fun g2 kk wr => ∃ k : Nat, g2 = n + 1 - k ∧ kk = .int .i64 k ∧ k ≤ n ∧ (∀ i, i < k → kdS s i ≠ 0) ∧ RtW W H s bf w wr)
  case atStart => exact ⟨0, rfl, rfl, by omega, fun i hi => by omega, R0.out⟩
  case round =>
    obtain ⟨k, hgk, rfl, hk, hz, rw0⟩ := hrel
    have HZ := Lib.hid hz; have RW := Lib.hid rw0
    have hb2 : wr.cell? ⟨bf, 2, none⟩ = some (.string s) := blk_cell RW.out.box 2
    clear hz rw0
    by_cases hlt : k < n
    · have hltI : (k : Int) < (n : Int) := by omega
      have hwk : IntKind.i64.wrap ((k : Int) + 1) = (k : Int) + 1 := IntWalk.i64_in _ (by omega)
      have hks : k < s.size := by have := HN.out; omega
      have hksI : (k : Int) < ((s.size : Nat) : Int) := by omega
      have hbt := bt_at s k
      obtain ⟨K, hK⟩ : ∃ K, K = kindB (bt s k) := ⟨_, rfl⟩
      have hkd := fun w => kind_any (bt s k) w
      rw [← hK] at hkd
      have HK := Lib.hid (show K = kdS s k from hK)
      have HKD := Lib.hid hkd
      clear hK hkd
      by_cases h0 : K = 0
      · have h0b : ((K : Int) == 0) = true := by simp [h0]
        have hno : R = false := by rw [HR.out]; exact rightB_f fun r => r.kinds k hks (by rw [← HK.out, h0])
        have HNO := Lib.hid hno
        clear hno h0 hlt hks
        go_wp2_with (go_at_call 51; refine (HKD.out _).mono ?_; rintro e wz ⟨rfl, rfl⟩)
        go_ret
        exact ⟨by rw [HNO.out]; rfl, RW.out.kp⟩
      · have h0b : ((K : Int) == 0) = false := by simp; omega
        have HZ2 := Lib.hid (show ∀ i, i < k + 1 → kdS s i ≠ 0 by
          intro i hi
          rcases Nat.lt_or_ge i k with h | h
          · exact HZ.out i h
          · obtain rfl : i = k := by omega
            rw [← HK.out]; exact h0)
        clear h0 hlt hks
        go_wp2_with (go_at_call 51; refine (HKD.out _).mono ?_; rintro e wz ⟨rfl, rfl⟩)
        go_roundg (n + 1 - (k + 1))
        case measure => omega
        case rel => exact ⟨k + 1, rfl, by go_num, by omega, HZ2.out, RW.out⟩
    · obtain rfl : k = n := by omega
      have hd0 : ¬ (k : Int) < (k : Int) := by omega
      have hb0 : wr.cell? ⟨bf, 0, none⟩ = some (.int .i64 (W : Int)) := blk_cell RW.out.box 0
      have hb1 : wr.cell? ⟨bf, 1, none⟩ = some (.int .i64 (H : Int)) := blk_cell RW.out.box 1
      clear hlt
      go_wp2_with fail
      refine (docks_any (Flr.mk W H s) (by show s.size ≤ 2000; have := HN.out; omega) wr).mono ?_
      rintro e wd hdR
      rcases hdR with ⟨ds, vd, rfl, hds, nsd⟩ | ⟨rfl, hno, kpd⟩
      · have RD := Lib.hid (RW.out.no nsd.kp)
        have hb0 : wd.cell? ⟨bf, 0, none⟩ = some (.int .i64 (W : Int)) := blk_cell RD.out.box 0
        have hb1 : wd.cell? ⟨bf, 1, none⟩ = some (.int .i64 (H : Int)) := blk_cell RD.out.box 1
        have hb2 : wd.cell? ⟨bf, 2, none⟩ = some (.string s) := blk_cell RD.out.box 2
        have HDS := Lib.hid hds; have OD := Lib.hid nsd.own
        clear hds nsd
        go_wp2_with fail
        refine (joined_any W H s hW1 hW hH1 hH HS.out wd).mono ?_
        rintro e wj ⟨bj, rfl, hbj, kpj⟩
        have RJ := Lib.hid (RD.out.no kpj)
        have OJ := Lib.hid (OD.out.kpNo kpj)
        have HBJ := Lib.hid hbj
        clear hbj kpj
        cases bj with
        | false =>
          have hno : R = false := by rw [HR.out]; exact rightB_f fun r => by have := HBJ.out.2 r.join; simp at this
          have HNO := Lib.hid hno
          clear hno
          go_wp2_with fail
          go_ret
          exact ⟨by rw [HNO.out]; rfl, RJ.out.kp⟩
        | true =>
          obtain ⟨A, q, rfl⟩ := OD.out.rd.shape
          rw [ints_len] at OJ ⊢
          obtain ⟨m, hm⟩ : ∃ m, m = ds.length := ⟨_, rfl⟩
          rw [← hm] at OJ ⊢
          have HM := Lib.hid hm
          have hm8 : m ≤ 8 := by rw [hm]; exact HDS.out.len
          clear hm OD
          go_wp2_with fail
          obtain ⟨wo, rfl⟩ : ∃ wo : World, wo = wr := ⟨_, rfl⟩
          go_loopg [67] (m + 1) (fun g2 jj wx => ∃ j : Nat, g2 = m + 1 - j ∧ jj = .int .i64 j ∧ j ≤ m ∧ (∀ r d, r < j → ds[r]? = some d → ∃ x ∈ besideP W H d, laneI s x) ∧ RtW W H s bf w wx ∧ Own IK 3 wx (.slice A m q) (ints ds))
          case atStart => exact ⟨0, rfl, rfl, by omega, fun r d hr => by omega, RJ.out, OJ.out⟩
          case round =>
            obtain ⟨j, hgj, rfl, hj, hby, rx, ox⟩ := hrel
            have HBY := Lib.hid hby; have RX := Lib.hid rx; have OX := Lib.hid ox
            clear hby rx ox
            have hb0 : wr.cell? ⟨bf, 0, none⟩ = some (.int .i64 (W : Int)) := blk_cell RX.out.box 0
            have hb1 : wr.cell? ⟨bf, 1, none⟩ = some (.int .i64 (H : Int)) := blk_cell RX.out.box 1
            have hb2 : wr.cell? ⟨bf, 2, none⟩ = some (.string s) := blk_cell RX.out.box 2
            by_cases hlt : j < m
            · have hltI : (j : Int) < (m : Int) := by omega
              have hwj : IntKind.i64.wrap ((j : Int) + 1) = (j : Int) + 1 := IntWalk.i64_in _ (by omega)
              obtain ⟨d, hd⟩ : ∃ d, ds[j]? = some d := ⟨_, List.getElem?_eq_getElem (by rw [← HM.out]; exact hlt)⟩
              obtain ⟨hd1, hd2, hd3⟩ := HDS.out.at_ j d hd
              have hdW : d < W * H := by rw [← HS.out]; exact hd1
              rcases OX.out.b with ⟨hv, _⟩ | ⟨gB, capB, hv, _, _, _⟩
              · simp only [Value.slice.injEq] at hv; omega
              simp only [Value.slice.injEq] at hv
              obtain ⟨rfl, hzz, rfl⟩ := hv
              clear hzz
              have hcb : wr.cell? ⟨gB, j, none⟩ = some (.int .i64 (d : Int)) := by have := OX.out.rd.intAt (ints_get hd); simpa using this
              have HDJ := Lib.hid hd; have HDW := Lib.hid hdW; have HD1 := Lib.hid hd1; have HD2 := Lib.hid hd2
              clear hd hd1 hd2 hd3 hdW hlt
              go_wp2_with fail
              refine (beside_any W H d s hW1 hW hH1 hH HDW.out wr).mono ?_
              rintro e w3 ⟨vB, rfl, nb⟩
              obtain ⟨AB, qB, rfl⟩ := nb.own.rd.shape
              rw [ints_len] at nb ⊢
              obtain ⟨nB, hnB⟩ : ∃ nB, nB = (besideP W H d).length := ⟨_, rfl⟩
              have hB4 : nB ≤ 4 := by rw [hnB, ← bsA_four]; exact bsA_len W H d 4
              rw [← hnB] at nb ⊢
              have HNB := Lib.hid hnB
              have R3 := Lib.hid (RX.out.no nb.kp); have O3 := Lib.hid (OX.out.kpNo nb.kp); have NB := Lib.hid nb.own
              clear nb hnB hb0 hb1 hb2 hcb
              go_wp2_with fail
              obtain ⟨wc, rfl⟩ : ∃ wc : World, wc = wr := ⟨_, rfl⟩
              go_loopg [8, 75] (nB + 1) (fun g3 by_ ii wy => ∃ (i : Nat) (b : Bool), g3 = nB + 1 - i ∧ ii = .int .i64 i ∧ i ≤ nB ∧ by_ = .bool b ∧ b = byTo W H s d i ∧ RtW W H s bf w wy ∧ Own IK 3 wy (.slice (some ⟨gB, 0, none⟩) m q) (ints ds) ∧ Own IK 3 wy (.slice AB nB qB) (ints (besideP W H d)))
              case atStart => exact ⟨0, false, rfl, rfl, by omega, rfl, rfl, R3.out, O3.out, NB.out⟩
              case round =>
                obtain ⟨i, b, hgi, rfl, hi, rfl, hb, ry, oy, ob⟩ := hrel
                have HB := Lib.hid hb; have RY := Lib.hid ry; have OY := Lib.hid oy; have OB := Lib.hid ob
                clear hb ry oy ob
                by_cases hlt : i < nB
                · have hltI : (i : Int) < (nB : Int) := by omega
                  have hwi : IntKind.i64.wrap ((i : Int) + 1) = (i : Int) + 1 := IntWalk.i64_in _ (by omega)
                  obtain ⟨x, hx⟩ : ∃ x, (besideP W H d)[i]? = some x := ⟨_, List.getElem?_eq_getElem (by rw [← HNB.out]; exact hlt)⟩
                  have hxs : x < s.size := by rw [HS.out]; exact beside_lt hW1 HDW.out (List.mem_of_getElem? hx)
                  rcases OB.out.b with ⟨hv, _⟩ | ⟨gC, capC, hv, _, _, _⟩
                  · simp only [Value.slice.injEq] at hv; omega
                  simp only [Value.slice.injEq] at hv
                  obtain ⟨rfl, hzz, rfl⟩ := hv
                  clear hzz
                  have hcb : wr.cell? ⟨gC, i, none⟩ = some (.int .i64 (x : Int)) := by have := OB.out.rd.intAt (ints_get hx); simpa using this
                  have hb2 : wr.cell? ⟨bf, 2, none⟩ = some (.string s) := blk_cell RY.out.box 2
                  have hxsI : (x : Int) < ((s.size : Nat) : Int) := by omega
                  have hxn : x < k := by have := HN.out; omega
                  have hbt := bt_at s x
                  obtain ⟨K, hK⟩ : ∃ K, K = kindB (bt s x) := ⟨_, rfl⟩
                  have hkd := fun w => kind_any (bt s x) w
                  rw [← hK] at hkd
                  have HKD := Lib.hid hkd
                  obtain ⟨t, ht⟩ : ∃ t : Bool, t = ((K : Int) == 2) := ⟨_, rfl⟩
                  have htI := ht.symm
                  have HB2 := Lib.hid (show (b || t) = byTo W H s d (i + 1) by
                    rw [byTo_succ hx, ← HB.out, ht, hK]
                    congr 1
                    show _ = (kindB (bt s x) == 2)
                    rw [Bool.eq_iff_iff]; simp; omega)
                  clear hK hkd ht hx hlt
                  cases b with
                  | false =>
                    go_wp2_with (go_at_call 51; refine (HKD.out _).mono ?_; rintro e wz ⟨rfl, rfl⟩)
                    go_roundg (nB + 1 - (i + 1))
                    case measure => omega
                    case rel => exact ⟨i + 1, t, rfl, by go_num, by omega, rfl, by rw [← HB2.out]; simp, RY.out, OY.out, OB.out⟩
                  | true =>
                    go_wp2_with (go_at_call 51; refine (HKD.out _).mono ?_; rintro e wz ⟨rfl, rfl⟩)
                    go_roundg (nB + 1 - (i + 1))
                    case measure => omega
                    case rel => exact ⟨i + 1, true, rfl, by go_num, by omega, rfl, by rw [← HB2.out]; simp, RY.out, OY.out, OB.out⟩
                · obtain rfl : i = nB := by omega
                  have hd0 : ¬ (i : Int) < (i : Int) := by omega
                  have HBE := Lib.hid (show b = true ↔ ∃ j ∈ besideP W H d, laneI s j by rw [HB.out, HNB.out]; exact byTo_all hW1 HS.out HDW.out)
                  clear hlt
                  cases b with
                  | false =>
                    have hno : R = false := by rw [HR.out]; exact rightB_f fun r => by have := HBE.out.2 (r.by_ d HD1.out HD2.out); simp at this
                    have HNO := Lib.hid hno
                    clear hno
                    go_wp2_with fail
                    go_ret
                    exact ⟨by rw [HNO.out]; rfl, RY.out.kp⟩
                  | true =>
                    have HBY2 := Lib.hid (show ∀ r e, r < j + 1 → ds[r]? = some e → ∃ x ∈ besideP W H e, laneI s x by
                      intro r e hr he
                      rcases Nat.lt_or_ge r j with h | h
                      · exact HBY.out r e h he
                      · obtain rfl : r = j := by omega
                        rw [HDJ.out] at he
                        simp at he; subst he
                        exact HBE.out.1 rfl)
                    go_wp2_with fail
                    go_roundg (m + 1 - (j + 1))
                    case measure => omega
                    case rel => exact ⟨j + 1, rfl, by go_num, by omega, HBY2.out, RY.out, OY.out⟩
            · obtain rfl : j = m := by omega
              have hd0 : ¬ (j : Int) < (j : Int) := by omega
              have hyes : R = true := by
                rw [HR.out]
                refine rightB_t ⟨by simp; omega, by simp; omega, by simp; omega, by simp; omega, by simp [HS.out], fun i hi => HZ.out i (by have := HN.out; have hi : i < s.size := hi; omega), ⟨ds, HDS.out⟩, by have := HBJ.out; simpa using this, fun i hi h3 => ?_⟩
                have := HDS.out.all i hi h3
                have hl := (List.getElem?_eq_some_iff.1 this).1
                simpa using HBY.out _ i (by rw [HM.out]; exact hl) this
              have HYES := Lib.hid hyes
              clear hyes hlt
              go_wp2_with fail
              go_ret
              exact ⟨by rw [HYES.out]; rfl, RX.out.kp⟩
      · have hno : R = false := by rw [HR.out]; exact rightB_f fun r => hno r.docks
        have HNO := Lib.hid hno
        have KD := Lib.hid (RW.out.kp.no kpd)
        clear hno kpd
        go_wp2_with fail
        go_ret
        exact ⟨by rw [HNO.out]; rfl, KD.out⟩

theorem right_any (f : Flr) (hsz : f.s.size ≤ 9223372036854775807) (w : World) : Calls Tryz.prog 33 #[f.val] w (RightR f w) := by
  by_cases h : f.W < 1 ∨ 16 < f.W ∨ f.H < 1 ∨ 16 < f.H ∨ ((f.s.size : Int) ≠ f.W * f.H)
  · exact right_dims f w h hsz
  · obtain ⟨X, Y, s⟩ := f
    simp only at h
    obtain ⟨W, rfl⟩ : ∃ W : Nat, X = W := ⟨X.toNat, by omega⟩
    obtain ⟨H, rfl⟩ : ∃ H : Nat, Y = H := ⟨Y.toNat, by omega⟩
    refine right_in W H s (by omega) (by omega) (by omega) (by omega) ?_ w
    have : (s.size : Int) = W * H := by
      by_cases hh : (s.size : Int) = W * H
      · exact hh
      · exact absurd (Or.inr (Or.inr (Or.inr (Or.inr hh)))) h
    exact_mod_cast this
end Go.Proofs.YtmipnicdlldjnaaGreatDoor

namespace Go.Proofs.YtmipnicdlldjnaaGreatDoor
set_option linter.unusedVariables false
set_option linter.unusedSimpArgs false
open Go.RowKit

def docksP (s : ByteArray) (k : Nat) : List Nat := (List.range k).filter fun i => kdS s i == 3
theorem docksP_in {s : ByteArray} {k : Nat} (h : kdS s k = 3) : docksP s (k + 1) = docksP s k ++ [k] := by
  unfold docksP; rw [List.range_succ, List.filter_append]; simp [h]
theorem docksP_out {s : ByteArray} {k : Nat} (h : kdS s k ≠ 3) : docksP s (k + 1) = docksP s k := by
  unfold docksP; rw [List.range_succ, List.filter_append]; simp [h]
theorem DocksL.steps {s : ByteArray} {ds : List Nat} (h : DocksL s ds) : ∀ k, k ≤ s.size → ∃ a, DkI s k a (docksP s k).length := by
  intro k
  induction k with
  | zero => intro _; exact ⟨_, DkI.start s⟩
  | succ k ih =>
    intro hk
    obtain ⟨a, ha⟩ := ih (by omega)
    by_cases h3 : kdS s k = 3
    · rw [docksP_in h3]
      have hd := kd_dock h3
      have hlt : bt s k - 48 < a.length := by rw [ha.len]; omega
      rcases hx : a[bt s k - 48] with _ | x
      · exact ⟨_, by simpa using ha.take (r := bt s k - 48) h3 (by omega) (by rw [List.getElem?_eq_getElem hlt, hx])⟩
      · exact absurd ⟨ds, h⟩ (ha.twice (r := bt s k - 48) (x := x) (by omega) h3 (by omega) (by rw [List.getElem?_eq_getElem hlt, hx]))
    · rw [docksP_out h3]
      exact ⟨a, ha.skip h3⟩
theorem DocksL.count {s : ByteArray} {ds : List Nat} (h : DocksL s ds) : ds.length = (docksP s s.size).length := by
  obtain ⟨a, ha⟩ := h.steps s.size (Nat.le_refl _)
  exact ((ha.shape h).2).symm
def dockAt (s : ByteArray) (r : Nat) : Option Nat := (List.range s.size).find? fun i => kdS s i == 3 && bt s i == 48 + r
theorem DocksL.find {s : ByteArray} {ds : List Nat} (h : DocksL s ds) (r : Nat) : dockAt s r = ds[r]? := by
  unfold dockAt
  cases hf : (List.range s.size).find? fun i => kdS s i == 3 && bt s i == 48 + r with
  | some x =>
    have h1 := List.find?_some hf
    have h2 := List.mem_of_find?_eq_some hf
    simp at h1 h2
    have := h.all x h2 h1.1
    rw [h1.2, Nat.add_sub_cancel_left] at this
    exact this.symm
  | none =>
    cases hd : ds[r]? with
    | none => rfl
    | some i =>
      obtain ⟨h1, h2, h3⟩ := h.at_ r i hd
      rw [List.find?_eq_none] at hf
      have := hf i (by simpa using h1)
      simp [h2, h3] at this

/-! ### What is told of a floor -/
noncomputable def robotsP (f : Flr) : Nat := if rightB f = true then (docksP f.s f.s.size).length else 0
noncomputable def dockP (f : Flr) (n : Int) : Option Nat := if rightB f = true ∧ 0 ≤ n then dockAt f.s n.toNat else none
noncomputable def isB (f : Flr) (c k : Int) : Bool := decide (0 ≤ c) && decide (c < f.s.size) && ((kdS f.s c.toNat : Int) == k) && rightB f
noncomputable def zoneP (f : Flr) (c : Int) : Option Nat := if isB f c 2 = true then some (bt f.s c.toNat - 97) else none
noncomputable def nearP (f : Flr) (c : Int) : List Nat := if isB f c 2 = true ∨ isB f c 3 = true then (besideP f.W.toNat f.H.toNat c.toNat).filter fun x => kdS f.s x != 1 else []
noncomputable def lanesP (f : Flr) : List Nat := if rightB f = true then lanesTo f.s f.s.size else []
def ZVal (o : Option Nat) : Value := .tuple #[.int .i64 ((o.getD 0 : Nat) : Int), .bool o.isSome]

structure BxW (f : Flr) (bf : Nat) (w0 w : World) : Prop where
  box : w.heap[bf]? = some (.cells #[.int .i64 f.W, .int .i64 f.H, .string f.s] 23 (0, 0))
  kp : Kp No w0 w
theorem BxW.no {f : Flr} {bf : Nat} {w0 w w' : World} (h : BxW f bf w0 w) (hk : Kp No w w') : BxW f bf w0 w' := ⟨hk.blk h.box (no_no _), h.kp.no hk⟩
theorem BxW.new (f : Flr) (w : World) : BxW f w.heap.size w (w.alloc (.cells #[.int .i64 f.W, .int .i64 f.H, .string f.s] 23)) := ⟨blk_new w _, (Kp.refl _ _).alloc _⟩
theorem BxW.c0 {f : Flr} {bf : Nat} {w0 w : World} (h : BxW f bf w0 w) : w.cell? ⟨bf, 0, none⟩ = some (.int .i64 f.W) := blk_cell h.box 0
theorem BxW.c1 {f : Flr} {bf : Nat} {w0 w : World} (h : BxW f bf w0 w) : w.cell? ⟨bf, 1, none⟩ = some (.int .i64 f.H) := blk_cell h.box 1
theorem BxW.c2 {f : Flr} {bf : Nat} {w0 w : World} (h : BxW f bf w0 w) : w.cell? ⟨bf, 2, none⟩ = some (.string f.s) := blk_cell h.box 2

theorem right_at (f : Flr) (hsz : f.s.size ≤ 9223372036854775807) (b : Bool) (hb : rightB f = b) (w : World) : Calls Tryz.prog 33 #[f.val] w fun e w' => e = .returned (.bool b) ∧ Kp No w w' := by
  subst hb; exact right_any f hsz w

set_option maxRecDepth 100000 in
theorem is_any (f : Flr) (hsz : f.s.size ≤ 9223372036854775807) (c k : Int) (hc : c ≤ 9223372036854775807) (w : World) :
    Calls Tryz.prog 35 #[f.val, .int .i64 c, .int .i64 k] w fun e w' => e = .returned (.bool (isB f c k)) ∧ Kp No w w' := by
  obtain ⟨R, hR⟩ : ∃ R, R = isB f c k := ⟨_, rfl⟩
  rw [← hR]
  unfold isB at hR
  have HSZ := Lib.hid hsz
  obtain ⟨n, hn⟩ : ∃ n, n = f.s.size := ⟨_, rfl⟩
  have hnI : ((f.s.size : Nat) : Int) = (n : Int) := by omega
  have HN := Lib.hid hn
  rw [← hn] at hsz
  by_cases h0 : 0 ≤ c
  · have h0b : decide (0 ≤ c) = true := by simpa using h0
    obtain ⟨j, rfl⟩ : ∃ j : Nat, c = j := ⟨c.toNat, by omega⟩
    by_cases h1 : j < n
    · have h1I : (j : Int) < (n : Int) := by omega
      have h1s : j < f.s.size := by omega
      have h1sI : (j : Int) < ((f.s.size : Nat) : Int) := by omega
      obtain ⟨K, hK⟩ : ∃ K, K = kindB (bt f.s j) := ⟨_, rfl⟩
      have hbt := bt_at f.s j
      have hkd := fun w => kind_any (bt f.s j) w
      rw [← hK] at hkd
      have HKD := Lib.hid hkd
      have e1 : R = (((K : Int) == k) && rightB f) := by rw [hR, hK]; simp [h0, h1s, kdS]
      obtain ⟨b, hb⟩ : ∃ b, rightB f = b := ⟨_, rfl⟩
      rw [hb] at e1
      have HRT := Lib.hid (right_at f HSZ.out b hb)
      have HE := Lib.hid e1
      unfold Flr.val
      unfold Flr.val at HRT
      clear hR hkd hK e1 hb h1 hn h0
      by_cases h2 : (K : Int) = k
      · have h2b : ((K : Int) == k) = true := by simp [h2]
        rw [h2b, Bool.true_and] at HE
        have hBx := BxW.new f w
        have HBX := Lib.hid hBx
        clear h2 hBx
        go_enter Tryz.func35, Tryz.ntmps35
        go_wp2_with (first | (go_at_call 51; refine (HKD.out _).mono ?_; rintro e wz ⟨rfl, rfl⟩) | (go_at_call 33; refine (HRT.out _).mono ?_; rintro e wz ⟨rfl, kpz⟩))
        go_ret
        exact ⟨by rw [HE.out]; rfl, HBX.out.kp.no kpz⟩
      · have h2b : ((K : Int) == k) = false := by simpa using h2
        rw [h2b, Bool.false_and] at HE
        have HBX := Lib.hid (BxW.new f w)
        clear h2
        go_enter Tryz.func35, Tryz.ntmps35
        go_wp2_with (first | (go_at_call 51; refine (HKD.out _).mono ?_; rintro e wz ⟨rfl, rfl⟩) | (go_at_call 33; refine (HRT.out _).mono ?_; rintro e wz ⟨rfl, kpz⟩))
        go_ret
        exact ⟨by rw [HE.out]; rfl, HBX.out.kp⟩
    · have h1I : ¬ (j : Int) < (n : Int) := by omega
      have HE := Lib.hid (show R = false by rw [hR]; simp; intro _ h; omega)
      have HBX := Lib.hid (BxW.new f w)
      unfold Flr.val
      clear hR h1 hn h0
      go_enter Tryz.func35, Tryz.ntmps35
      go_wp2
      go_ret
      exact ⟨by rw [HE.out]; rfl, HBX.out.kp⟩
  · have h0b : decide (0 ≤ c) = false := by simpa using h0
    have HE := Lib.hid (show R = false by rw [hR]; simp [h0])
    have HBX := Lib.hid (BxW.new f w)
    unfold Flr.val
    clear hR hn
    go_enter Tryz.func35, Tryz.ntmps35
    go_wp2
    go_ret
    exact ⟨by rw [HE.out]; rfl, HBX.out.kp⟩

theorem is_at (f : Flr) (hsz : f.s.size ≤ 9223372036854775807) (c k : Int) (hc : c ≤ 9223372036854775807) (b : Bool) (hb : isB f c k = b) (w : World) : Calls Tryz.prog 35 #[f.val, .int .i64 c, .int .i64 k] w fun e w' => e = .returned (.bool b) ∧ Kp No w w' := by
  subst hb; exact is_any f hsz c k hc w
theorem isB_iff {f : Flr} {c k : Int} : isB f c k = true ↔ 0 ≤ c ∧ c < f.s.size ∧ (kdS f.s c.toNat : Int) = k ∧ RightP f := by
  unfold isB; simp [rightB_iff, and_assoc]

theorem zone_any (f : Flr) (hsz : f.s.size ≤ 9223372036854775807) (c : Int) (hc : c ≤ 9223372036854775807) (w : World) :
    Calls Tryz.prog 19 #[f.val, .int .i64 c] w fun e w' => e = .returned (ZVal (zoneP f c)) ∧ Kp No w w' := by
  obtain ⟨Z, hZ⟩ : ∃ Z, Z = zoneP f c := ⟨_, rfl⟩
  rw [← hZ]
  unfold zoneP at hZ
  have HBX := Lib.hid (BxW.new f w)
  cases hb : isB f c 2 with
  | true =>
    rw [if_pos hb] at hZ
    have HIS := Lib.hid (is_at f hsz c 2 hc true hb)
    obtain ⟨h1, h2, h3, h4⟩ := isB_iff.1 hb
    obtain ⟨j, rfl⟩ : ∃ j : Nat, c = j := ⟨c.toNat, by omega⟩
    have hj : j < f.s.size := by omega
    have hbt := bt_at f.s j
    obtain ⟨B, hB⟩ : ∃ B, B = bt f.s j := ⟨_, rfl⟩
    have hl := kd_lane (c := B) (by rw [hB]; have : kdS f.s j = 2 := by simp at h3; omega
                                    exact this)
    have hsub : IntKind.u8.wrap ((B : Int) - 97) = ((B - 97 : Nat) : Int) := by rw [IntWalk.u8_in _ (by omega)]; omega
    have hcv : IntKind.i64.wrap ((B - 97 : Nat) : Int) = ((B - 97 : Nat) : Int) := IntWalk.i64_in _ (by omega)
    rw [← hB] at hbt
    simp only [Int.toNat_natCast] at hZ
    rw [← hB] at hZ
    subst hZ
    obtain ⟨q, hq⟩ : ∃ q, q = B - 97 := ⟨_, rfl⟩
    rw [← hq] at hsub hcv ⊢
    have hq25 : q ≤ 25 := by omega
    unfold Flr.val
    unfold Flr.val at HIS
    clear hb h1 h3 h4 hq hB hl
    go_enter Tryz.func19, Tryz.ntmps19
    go_wp2_with fail
    refine (HIS.out _).mono ?_
    rintro e w1 ⟨rfl, kp1⟩
    have B1 := Lib.hid (HBX.out.no kp1)
    have hb2 := B1.out.c2
    clear kp1
    go_wp2
    go_ret2
    exact ⟨rfl, B1.out.kp⟩
  | false =>
    rw [if_neg (by simp [hb])] at hZ
    subst hZ
    have HIS := Lib.hid (is_at f hsz c 2 hc false hb)
    unfold Flr.val
    unfold Flr.val at HIS
    clear hb
    go_enter Tryz.func19, Tryz.ntmps19
    go_wp2_with fail
    refine (HIS.out _).mono ?_
    rintro e w1 ⟨rfl, kp1⟩
    have B1 := Lib.hid (HBX.out.no kp1)
    clear kp1
    go_wp2
    go_ret2
    exact ⟨rfl, B1.out.kp⟩

theorem RightP.s256 {f : Flr} (r : RightP f) : f.s.size ≤ 256 := by
  have := r.len
  have h1 := r.w1; have h2 := r.w2; have h3 := r.h1; have h4 := r.h2
  have h5 : f.W * f.H ≤ 16 * 16 := Int.mul_le_mul h2 h4 (by omega) (by omega)
  omega

theorem dock_any (f : Flr) (hsz : f.s.size ≤ 9223372036854775807) (c : Int) (hc : c ≤ 9223372036854775807) (w : World) :
    Calls Tryz.prog 18 #[f.val, .int .i64 c] w fun e w' => e = .returned (ZVal (dockP f c)) ∧ Kp No w w' := by
  obtain ⟨Z, hZ⟩ : ∃ Z, Z = dockP f c := ⟨_, rfl⟩
  rw [← hZ]
  unfold dockP at hZ
  have HBX := Lib.hid (BxW.new f w)
  cases hb : rightB f with
  | true =>
    have HRT := Lib.hid (right_at f hsz true hb)
    have HDK := Lib.hid (docks_any f (by have := (rightB_iff.1 hb).s256; omega))
    have HZ := Lib.hid (show Z = if 0 ≤ c then dockAt f.s c.toNat else none by rw [hZ]; simp [hb])
    unfold Flr.val at HRT HDK ⊢
    have HNO := Lib.hid (rightB_iff.1 hb).docks
    clear hb hZ
    go_enter Tryz.func18, Tryz.ntmps18
    go_wp2_with fail
    refine (HRT.out _).mono ?_
    rintro e w1 ⟨rfl, kp1⟩
    have B1 := Lib.hid (HBX.out.no kp1)
    have hb0 := B1.out.c0; have hb1 := B1.out.c1; have hb2 := B1.out.c2
    clear kp1
    go_wp2_with fail
    refine (HDK.out _).mono ?_
    rintro e w2 hd
    rcases hd with ⟨ds, vd, rfl, hds, nsd⟩ | ⟨rfl, hno, kpd⟩
    · have HDS := Lib.hid hds
      have K2 := Lib.hid (B1.out.kp.no nsd.kp)
      have OW := Lib.hid nsd.own
      obtain ⟨A, q, rfl⟩ := nsd.own.rd.shape
      obtain ⟨m, hm⟩ : ∃ m, m = ds.length := ⟨_, rfl⟩
      rw [ints_len, ← hm] at OW ⊢
      have HM := Lib.hid hm
      have hm8 : m ≤ 8 := by rw [hm]; exact hds.len
      clear nsd hds hm hb0 hb1 hb2
      by_cases h0 : c < 0
      · have HE := Lib.hid (show Z = none by rw [HZ.out, if_neg (by omega)])
        go_wp2_with fail
        go_ret2
        exact ⟨by rw [HE.out]; rfl, K2.out⟩
      · have h0b : decide (c < 0) = false := by simpa using h0
        obtain ⟨j, rfl⟩ : ∃ j : Nat, c = j := ⟨c.toNat, by omega⟩
        by_cases h1 : j < m
        · have h1I : ¬ (m : Int) ≤ (j : Int) := by omega
          obtain ⟨d, hd⟩ : ∃ d, ds[j]? = some d := ⟨_, List.getElem?_eq_getElem (by rw [← HM.out]; exact h1)⟩
          have HE := Lib.hid (show Z = some d by rw [HZ.out, if_pos (by omega), Int.toNat_natCast, HDS.out.find, hd])
          rcases OW.out.b with ⟨hv, _⟩ | ⟨gB, capB, hv, _, _, _⟩
          · simp only [Value.slice.injEq] at hv; omega
          simp only [Value.slice.injEq] at hv
          obtain ⟨rfl, hzz, rfl⟩ := hv
          clear hzz
          have hcb : w2.cell? ⟨gB, j, none⟩ = some (.int .i64 (d : Int)) := by have := OW.out.rd.intAt (ints_get hd); simpa using this
          have h1J : (j : Int) < (m : Int) := by omega
          clear hd h0
          go_wp2_with fail
          go_ret2
          exact ⟨by rw [HE.out]; rfl, K2.out⟩
        · have h1I : (m : Int) ≤ (j : Int) := by omega
          have h1N : m ≤ j := by omega
          have HE := Lib.hid (show Z = none by rw [HZ.out, if_pos (by omega), Int.toNat_natCast, HDS.out.find, List.getElem?_eq_none (by rw [← HM.out]; omega)])
          clear h0 h1
          go_wp2_with fail
          go_ret2
          exact ⟨by rw [HE.out]; rfl, K2.out⟩
    · exact absurd HNO.out hno
  | false =>
    rw [if_neg (by simp [hb])] at hZ
    subst hZ
    have HRT := Lib.hid (right_at f hsz false hb)
    unfold Flr.val at HRT ⊢
    clear hb
    go_enter Tryz.func18, Tryz.ntmps18
    go_wp2_with fail
    refine (HRT.out _).mono ?_
    rintro e w1 ⟨rfl, kp1⟩
    have B1 := Lib.hid (HBX.out.no kp1)
    clear kp1
    go_wp2
    go_ret2
    exact ⟨rfl, B1.out.kp⟩
end Go.Proofs.YtmipnicdlldjnaaGreatDoor

namespace Go.Proofs.YtmipnicdlldjnaaGreatDoor
set_option linter.unusedVariables false
set_option linter.unusedSimpArgs false
open Go.RowKit

/-- The pieces between the bytes 10. -/
def pcs : List UInt8 → List (List UInt8)
  | [] => [[]]
  | c :: l => if c = 10 then [] :: pcs l else match pcs l with
    | [] => [[c]]
    | p :: ps => (c :: p) :: ps
theorem pcs_ne (l : List UInt8) : pcs l ≠ [] := by
  cases l with
  | nil => simp [pcs]
  | cons c l => unfold pcs; split; simp; split <;> simp
theorem pcs_free {l : List UInt8} (h : (10 : UInt8) ∉ l) : pcs l = [l] := by
  induction l with
  | nil => rfl
  | cons c l ih =>
    rw [pcs, if_neg (fun e => h (by simp [e])), ih (fun e => h (by simp [e]))]
theorem pcs_cut {a : List UInt8} (b : List UInt8) (h : (10 : UInt8) ∉ a) : pcs (a ++ 10 :: b) = a :: pcs b := by
  induction a with
  | nil => rw [List.nil_append, pcs, if_pos rfl]
  | cons c a ih =>
    rw [List.cons_append, pcs, if_neg (fun e => h (by simp [e])), ih (fun e => h (by simp [e]))]
theorem pcs_snoc10 : ∀ (l : List UInt8), pcs (l ++ [10]) = pcs l ++ [[]] := by
  intro l
  induction l with
  | nil => rfl
  | cons c l ih =>
    rw [List.cons_append, pcs, pcs, ih]
    split
    · rfl
    · rcases h : pcs l with _ | ⟨p, ps⟩
      · exact absurd h (pcs_ne l)
      · rfl
theorem pcs_snoc : ∀ (l : List UInt8) (L : List (List UInt8)) (cur : List UInt8) (c : UInt8), c ≠ 10 → pcs l = L ++ [cur] → pcs (l ++ [c]) = L ++ [cur ++ [c]] := by
  intro l
  induction l with
  | nil =>
    intro L cur c hc h
    rcases L with _ | ⟨x, L⟩
    · simp [pcs] at h; subst h; simp [pcs, hc]
    · simp [pcs] at h
  | cons d l ih =>
    intro L cur c hc h
    rw [List.cons_append, pcs]
    rw [pcs] at h
    split at h
    · rename_i e
      rw [if_pos e]
      rcases L with _ | ⟨x, L⟩
      · simp at h; exact absurd h.2 (pcs_ne l)
      · simp at h
        rw [ih L cur c hc h.2, ← h.1]; rfl
    · rename_i e
      rw [if_neg e]
      rcases hp : pcs l with _ | ⟨p, ps⟩
      · exact absurd hp (pcs_ne l)
      · rw [hp] at h
        simp only at h
        rcases L with _ | ⟨x, L⟩
        · simp at h
          obtain ⟨rfl, rfl⟩ := h
          rw [ih [] p c hc hp]; rfl
        · simp at h
          obtain ⟨rfl, rfl⟩ := h
          rw [ih (p :: L) cur c hc hp]; rfl
/-- A text's rows. -/
def rowsL (l : List UInt8) : List (List UInt8) := if (pcs l).getLast? = some [] then (pcs l).dropLast else pcs l
theorem rowsL_of {l : List UInt8} {L : List (List UInt8)} {cur : List UInt8} (h : pcs l = L ++ [cur]) : rowsL l = if cur = [] then L else L ++ [cur] := by
  unfold rowsL; rw [h]; simp
theorem index_miss : ∀ {l : List UInt8}, (10 : UInt8) ∉ l → Lib.indexByte l 10 = -1 := by
  intro l
  induction l with
  | nil => intro _; rfl
  | cons c l ih =>
    intro h
    have h1 : (c == 10) = false := by simp; intro e; exact h (by simp [e])
    rw [Lib.indexByte, h1, ih (fun e => h (by simp [e]))]; rfl
theorem index_hit : ∀ {a : List UInt8} (b : List UInt8), (10 : UInt8) ∉ a → Lib.indexByte (a ++ 10 :: b) 10 = a.length := by
  intro a b
  induction a with
  | nil => intro _; rfl
  | cons c a ih =>
    intro h
    have h1 : (c == 10) = false := by simp; intro e; exact h (by simp [e])
    have h2 := ih (fun e => h (by simp [e]))
    rw [List.cons_append, Lib.indexByte, h1, h2, if_neg (by simp), if_neg (by simp <;> omega)]; simp
theorem splitK_pcs : ∀ (k : Nat) (l : List UInt8), l.count 10 = k → Lib.splitK [10] 0 k l = pcs l := by
  intro k
  induction k with
  | zero => intro l h; rw [pcs_free (List.count_eq_zero.1 h)]; rfl
  | succ k ih =>
    intro l h
    have hm : (10 : UInt8) ∈ l := by
      rcases Classical.em ((10 : UInt8) ∈ l) with hh | hh
      · exact hh
      · rw [List.count_eq_zero.2 hh] at h; cases h
    obtain ⟨a, b, rfl, ha⟩ := List.eq_append_cons_of_mem hm
    rw [List.count_append, List.count_eq_zero.2 ha, List.count_cons_self, Nat.zero_add] at h
    rw [Lib.splitK, Lib.index_one, index_hit b ha, if_neg (by simp <;> omega), pcs_cut b ha, Nat.add_zero, Int.toNat_natCast, List.take_left, ih _ (by simpa using h)]
    simp
theorem split_pcs (l : List UInt8) : Lib.splitK [10] 0 (Lib.count l [10]) l = pcs l := splitK_pcs _ _ (Lib.count_one 10 l).symm

/-! ### Over strings -/
def mkB (l : List UInt8) : ByteArray := ⟨l.toArray⟩
theorem mkB_data (s : ByteArray) : mkB s.data.toList = s := by unfold mkB; simp
theorem mkB_list (l : List UInt8) : (mkB l).data.toList = l := by simp [mkB]
theorem mkB_size (l : List UInt8) : (mkB l).size = l.length := by rw [Lib.size_eq, mkB_list]
def rowsB (s : ByteArray) : List ByteArray := (rowsL s.data.toList).map mkB
theorem split_rows (s sep : ByteArray) (hsep : sep = ⟨#[10]⟩) : Lib.splitB sep 0 (Lib.countB s sep) s = (pcs s.data.toList).map mkB := by
  subst hsep
  have h := Lib.splitB_data ⟨#[10]⟩ 0 (Lib.countB s ⟨#[10]⟩) s
  have h2 : Lib.countB s ⟨#[10]⟩ = Lib.count s.data.toList [10] := rfl
  rw [show (ByteArray.mk #[10]).data.toList = [10] from rfl, h2, split_pcs] at h
  rw [← h, List.map_map]
  have : (mkB ∘ fun x : ByteArray => x.data.toList) = id := by funext x; exact mkB_data x
  rw [h2, this, List.map_id]
/-- Which row may stand at a place. -/
def mayB (row first : ByteArray) (y : Nat) : Bool := decide (y < 16) && decide (row.size ≠ 0) && decide (row.size ≤ 16) && decide (row.size = first.size) && (List.range row.size).all fun i => kdS row i != 0
theorem mayB_iff {row first : ByteArray} {y : Nat} : mayB row first y = true ↔ y < 16 ∧ row.size ≠ 0 ∧ row.size ≤ 16 ∧ row.size = first.size ∧ ∀ i, i < row.size → kdS row i ≠ 0 := by
  unfold mayB; simp [and_assoc]
def badRow (R : List ByteArray) : Option Nat := (List.range R.length).find? fun y => !mayB (R.getD y ByteArray.empty) (R.getD 0 ByteArray.empty) y
theorem badRow_some {R : List ByteArray} {y : Nat} {row first : ByteArray} (hr : R[y]? = some row) (hf : R[0]? = some first) (hm : mayB row first y = false) (h : ∀ i r, i < y → R[i]? = some r → mayB r first i = true) : badRow R = some y := by
  unfold badRow
  have hl := (List.getElem?_eq_some_iff.1 hr).1
  have h0 : R.getD 0 ByteArray.empty = first := by simp [hf]
  rw [List.find?_range_eq_some, h0]
  refine ⟨by simp [hr, hm], by simpa using hl, fun j hj => ?_⟩
  have hjl : j < R.length := by omega
  have := h j _ hj (List.getElem?_eq_getElem hjl)
  simp [this, hjl]
theorem badRow_none {R : List ByteArray} {first : ByteArray} (hf : R[0]? = some first) (h : ∀ i r, i < R.length → R[i]? = some r → mayB r first i = true) : badRow R = none := by
  unfold badRow
  have h0 : R.getD 0 ByteArray.empty = first := by simp [hf]
  rw [List.find?_eq_none, h0]
  intro j hj
  have hjl : j < R.length := by simpa using hj
  have := h j _ hjl (List.getElem?_eq_getElem hjl)
  simp [this, hjl]
def joinB (R : List ByteArray) : ByteArray := mkB (R.map (·.data.toList)).flatten
def Flr.zero : Flr := ⟨0, 0, ByteArray.empty⟩
/-- What a text's parsing answers. -/
noncomputable def parseP (s : ByteArray) : Flr × Nat × Nat :=
  match badRow (rowsB s) with
  | some y => (Flr.zero, y, 30)
  | none => if rightB ⟨((rowsB s).getD 0 ByteArray.empty).size, (rowsB s).length, joinB (rowsB s)⟩ = true then (⟨((rowsB s).getD 0 ByteArray.empty).size, (rowsB s).length, joinB (rowsB s)⟩, 0, 0) else (Flr.zero, (rowsB s).length, 30)
def PVal (r : Flr × Nat × Nat) : Value := .tuple #[r.1.val, .int .i64 (r.2.1 : Int), .int .i64 (r.2.2 : Int)]
theorem zero_right : rightB Flr.zero = false := rightB_f fun r => by have := r.w1; simp [Flr.zero] at this
theorem parseP_ok {s : ByteArray} (h : (parseP s).2.2 = 0) : rightB (parseP s).1 = true := by
  unfold parseP at h ⊢
  cases h1 : badRow (rowsB s) with
  | some y => simp [h1] at h
  | none =>
    rw [h1] at h
    simp only at h ⊢
    by_cases h2 : rightB ⟨((rowsB s).getD 0 ByteArray.empty).size, (rowsB s).length, joinB (rowsB s)⟩ = true
    · rw [if_pos h2]; exact h2
    · rw [if_neg h2] at h; simp at h
theorem parseP_no {s : ByteArray} (h : (parseP s).2.2 ≠ 0) : (parseP s).1 = Flr.zero := by
  unfold parseP at h ⊢
  cases h1 : badRow (rowsB s) with
  | some y => rfl
  | none =>
    rw [h1] at h
    simp only at h ⊢
    by_cases h2 : rightB ⟨((rowsB s).getD 0 ByteArray.empty).size, (rowsB s).length, joinB (rowsB s)⟩ = true
    · rw [if_pos h2] at h; simp at h
    · rw [if_neg h2]
end Go.Proofs.YtmipnicdlldjnaaGreatDoor
