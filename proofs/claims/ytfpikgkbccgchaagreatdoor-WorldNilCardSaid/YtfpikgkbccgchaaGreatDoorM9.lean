/- floor.joined: the walk; floor.Right; Floors, plain: what is told of a floor; floor.is, Zone, Robots, Dock; A text's rows, plain; which rows may be; the floor of a text. No function of the program; floor.Near, floor.Lanes; Floors of given texts, plain: checked by reckoning; strings.Split at the separator of one byte, over any program: no cell of memory is asked for; The library's functions at this program: strings.Split, strings.Join and others, as the shelf lays them (written by the kit's tool; what is not wanted is left out); strings.Split at this program; floor.may; floor.Parse; floor's functions: contracts ready for use. No condition. -/
import Derived.Test.YtfpikgkbccgchaaGreatDoorM8
import Derived.Deep.LoopGhost
import Derived.Lib.SplitLaws
import Derived.Test.YtfpikgkbccgchaaGreatDoorM6
import Derived.Shelf.Strings.Split
import Derived.Shelf.Strings.OnBuilder
import Derived.Test.YtfpikgkbccgchaaGreatDoorProg
import Derived.Deep.RegionHeld3
import Derived.Deep.RegionLaw
import Derived.Deep.CutBlock
import Derived.Deep.DeepCutAuto
import Derived.Deep.Cut
import Derived.Deep.CutRange

namespace Go.Proofs.YtfpikgkbccgchaaGreatDoor
set_option linter.unusedVariables false
set_option linter.unusedSimpArgs false
open Go.RowKit

def JoinedR (W H : Nat) (s : ByteArray) (w : World) (e : Ending) (w' : World) : Prop := ∃ d : Bool, e = .returned (.bool d) ∧ (d = true ↔ joinedP W H s) ∧ Kp No w w'
set_option maxHeartbeats 2000000 in
set_option maxRecDepth 100000 in
theorem joined_any (W H : Nat) (s : ByteArray) (hW1 : 1 ≤ W) (hW : W ≤ 16) (hH1 : 1 ≤ H) (hH : H ≤ 16) (hs : s.size = W * H) (w : World) :
    Calls Tryz.prog 74 #[(Flr.mk W H s).val] w (JoinedR W H s w) := by
  unfold Flr.val
  have hs256 : s.size ≤ 256 := by rw [hs]; exact Nat.mul_le_mul hW hH
  have HS := Lib.hid hs
  obtain ⟨n, hn⟩ : ∃ n, n = s.size := ⟨_, rfl⟩
  have hnI : ((s.size : Nat) : Int) = (n : Int) := by omega
  have HN := Lib.hid hn
  have hn256 : n ≤ 256 := by omega
  have hmm := @run_makeMap Tryz.prog
  clear hs hn hs256
  go_enter Tryz.func74, Tryz.ntmps74
  go_wp2
  obtain ⟨bf, hbf⟩ : ∃ bf, bf = w.heap.size := ⟨_, rfl⟩
  obtain ⟨bm, hbm⟩ : ∃ bm, bm = w.heap.size + 1 := ⟨_, rfl⟩
  obtain ⟨w0, hw0⟩ : ∃ w0, w0 = (w.alloc (.cells #[.int .i64 (W : Int), .int .i64 (H : Int), .string s] 23)).alloc (.map #[] 0) := ⟨_, rfl⟩
  have K0 := Lib.hid (show Kp No w w0 by rw [hw0]; exact ((Kp.refl _ _).alloc _).alloc _)
  have J0 : Hid (JnW W H s bf bm w0 (.slice none 0 0) (lanesTo s 0) [] w0) := Lib.hid (by
    rw [hw0, hbf, hbm]
    refine ⟨blk_alloc (blk_new w _) _, ?_, Own.nil _ _ _, fun g hg => by simp [Value.ownBlock] at hg, Kp.refl _ _, by simp; omega, by simp, by omega⟩
    show SetI _ _ []
    have := SetI.made (w.alloc (.cells #[.int .i64 (W : Int), .int .i64 (H : Int), .string s] 23))
    simpa using this)
  have BM := Lib.hid (show ∀ j, j < w.heap.size → ¬ j = bm by intro j hj e; omega)
  rw [← hbm, ← hbf, ← hw0]
  clear hbf hbm hw0 hmm
  go_loopg [4, 13] (n + 1) (fun g2 v kk wr => ∃ k : Nat, g2 = n + 1 - k ∧ kk = .int .i64 k ∧ k ≤ n ∧ ∃ N : List Nat, N.length ≤ 1 ∧ (∀ i ∈ N, i < k ∧ kdS s i = 2) ∧ (N = [] → lanesTo s k = []) ∧ JnW W H s bf bm w0 v (lanesTo s k) N wr)
  case atStart => exact ⟨0, rfl, rfl, by omega, [], by simp, by simp, fun _ => rfl, J0.out⟩
  case round =>
    obtain ⟨k, hgk, rfl, hk, N, hN1, hN2, hN3, hj⟩ := hrel
    obtain ⟨A, c, rfl⟩ := hj.own.rd.shape
    have HJ := Lib.hid hj; have HN1 := Lib.hid hN1; have HN2 := Lib.hid hN2; have HN3 := Lib.hid hN3
    clear hj hN1 hN2 hN3
    by_cases hlt : k < n
    · have hltI : (k : Int) < (n : Int) := by omega
      have hwk : IntKind.i64.wrap ((k : Int) + 1) = (k : Int) + 1 := IntWalk.i64_in _ (by omega)
      have hks : k < s.size := by have := HN.out; omega
      have hksI : (k : Int) < ((s.size : Nat) : Int) := by omega
      have hbt := bt_at s k
      have hb2 := blk_cell HJ.out.box 2
      have hb2' : wr.cell? ⟨bf, 2, none⟩ = some (.string s) := hb2
      obtain ⟨K, hK⟩ : ∃ K, K = kindB (bt s k) := ⟨_, rfl⟩
      have hkd := fun w => kind_any (bt s k) w
      rw [← hK] at hkd
      have HK := Lib.hid (show K = kdS s k from hK)
      have HKD := Lib.hid hkd
      clear hK hkd hb2
      by_cases h2 : K = 2
      · have h2b : ((K : Int) == 2) = true := by simp [h2]
        have hkl : kdS s k = 2 := by rw [← HK.out, h2]
        have HKL := Lib.hid hkl
        have hnot : k ∉ lanesTo s k := fun e => by have := (lanesTo_mem.1 e).1; omega
        obtain ⟨w1, hup, set1, kp1⟩ := HJ.out.set.add mapB (k : Int)
        rw [addS_new hnot, ← lanesTo_in hkl] at set1
        have J1 := Lib.hid ((HJ.out.map set1 kp1).one k)
        clear set1 kp1 hnot hkl h2
        go_wp2_with (go_at_call 45; refine (HKD.out _).mono ?_; rintro e wz ⟨rfl, rfl⟩)
        go_roundg (n + 1 - (k + 1))
        case measure => omega
        case rel => exact ⟨k + 1, rfl, by go_num, by omega, [k], by simp, fun i hi => by rw [List.mem_singleton.1 hi]; exact ⟨by omega, HKL.out⟩, fun e => by simp at e, J1.out⟩
      · have h2b : ((K : Int) == 2) = false := by simp; omega
        have hkl : kdS s k ≠ 2 := by rw [← HK.out]; exact h2
        have HKL := Lib.hid (lanesTo_out hkl)
        clear hkl h2
        go_wp2_with (go_at_call 45; refine (HKD.out _).mono ?_; rintro e wz ⟨rfl, rfl⟩)
        go_roundg (n + 1 - (k + 1))
        case measure => omega
        case rel => exact ⟨k + 1, rfl, by go_num, by omega, N, HN1.out, fun i hi => ⟨by have := (HN2.out i hi).1; omega, (HN2.out i hi).2⟩, fun e => by rw [HKL.out]; exact HN3.out e, by rw [HKL.out]; exact HJ.out⟩
    · obtain rfl : k = n := by omega
      have hd0 : ¬ (k : Int) < (k : Int) := by omega
      clear hlt
      rcases N with _ | ⟨l, N'⟩
      · have hno : ¬ joinedP W H s := by
          rintro ⟨⟨i, hi⟩, _⟩
          have h1 := HN3.out rfl
          have h2 : i ∈ lanesTo s k := lanesTo_mem.2 ⟨by have := hi.1; have := HN.out; omega, hi.2⟩
          rw [h1] at h2
          simp at h2
        have HNO := Lib.hid hno
        clear hno
        go_wp2
        go_ret
        exact ⟨false, rfl, by simp [HNO.out], K0.out.trans' HJ.out.kp (fun j hj e => absurd e (BM.out j hj))⟩
      · obtain rfl : N' = [] := by have := HN1.out; simp at this; exact this
        have hl : laneI s l := ⟨by have := (HN2.out l (by simp)).1; have := HN.out; omega, (HN2.out l (by simp)).2⟩
        rcases HJ.out.own.b with ⟨_, he⟩ | ⟨g, cap, hv, hcm, hlc, hob⟩
        · simp [ints] at he
        simp only [Value.slice.injEq] at hv
        obtain ⟨rfl, _, rfl⟩ := hv
        have hc0 : wr.cell? ⟨g, 0, none⟩ = some (.int .i64 (l : Int)) := hob.cells 0 _ rfl
        obtain ⟨w2, hdel, set2, kp2⟩ := HJ.out.set.del mapB (l : Int)
        rw [ints_filter] at set2
        have J2 := HJ.out.map set2 kp2
        have D0 := Dfs.start (W := W) (H := H) hl
        have hLn : lanesTo s k = lanesTo s s.size := by rw [← HN.out]
        rw [hLn] at J2
        have HJ2 := Lib.hid J2; have HD0 := Lib.hid D0
        have HML := Lib.hid (show ((lanesTo s s.size).filter fun x => x != l).length ≤ 256 from Nat.le_trans (List.length_filter_le _ _) (Nat.le_trans (lanesTo_len _ _) (by have := HN.out; omega)))
        clear set2 kp2 J2 D0 hLn hl hob hlc hcm
        go_wp2
        obtain ⟨wb, rfl⟩ : ∃ wb : World, wb = wr := ⟨_, rfl⟩
        go_loopg [4] (2 * ((lanesTo s s.size).filter fun x => x != l).length + 1) (fun g2 v wr => ∃ L N : List Nat, g2 = 2 * L.length + N.length ∧ N.length + L.length ≤ 300 ∧ JnW W H s bf bm w0 v L N wr ∧ Dfs W H s l L N)
        case atStart => exact ⟨_, [l], rfl, by have := HML.out; simp; omega, HJ2.out, HD0.out⟩
        case round =>
          obtain ⟨L, N, hg2, hNL, hj2, hd2⟩ := hrel
          rcases snoc_cases N with rfl | ⟨N', c2, rfl⟩
          · obtain ⟨A2, q2, rfl⟩ := hj2.own.rd.shape
            have HE := Lib.hid (hd2.end_ hW1 HS.out)
            have HKP := Lib.hid hj2.kp
            have hlen := hj2.set.len mapB
            have hll : (ints L).length = L.length := ints_len L
            rw [hll] at hlen
            obtain ⟨d, hd⟩ : ∃ d : Bool, d = ((L.length : Int) == 0) := ⟨_, rfl⟩
            have hdI := hd.symm
            have HD := Lib.hid hd
            clear hj2 hd2 hd
            go_wp2
            go_ret
            refine ⟨d, rfl, ?_, K0.out.trans' HKP.out (fun j hj e => absurd e (BM.out j hj))⟩
            rw [HD.out, ← HE.out]
            simp
          · obtain ⟨A2, q2, rfl⟩ := hj2.own.rd.shape
            rcases hj2.own.b with ⟨_, he⟩ | ⟨g2, cap2, hv, hcm, _, _⟩
            · simp [ints] at he
            simp only [Value.slice.injEq] at hv
            obtain ⟨rfl, _, rfl⟩ := hv
            obtain ⟨p, hp⟩ : ∃ p, p = (ints (N' ++ [c2])).length := ⟨_, rfl⟩
            rw [← hp] at hj2 ⊢
            obtain ⟨m, hm⟩ : ∃ m, m = N'.length := ⟨_, rfl⟩
            obtain ⟨jc, hcell, hmc, hpm⟩ := hj2.cut hm
            have hc2 := (hd2.next c2 (by simp)).1
            have hcW : c2 < W * H := by rw [← HS.out]; exact hc2.1
            have di := hd2.pop
            have hp0 : (0 : Int) < (p : Int) := by omega
            have hpw : IntKind.i64.wrap ((p : Int) - 1) = (m : Int) := by rw [IntWalk.i64_in _ (by simp at hNL; omega)]; omega
            have hmp : (m : Int) < (p : Int) := by omega
            have hsl := fun w => run_slice_hi elI g2 0 p q2 m (by omega) (m : Int) rfl w
            have hb0 : wr.cell? ⟨bf, 0, none⟩ = some (.int .i64 (W : Int)) := blk_cell hj2.box 0
            have hb1 : wr.cell? ⟨bf, 1, none⟩ = some (.int .i64 (H : Int)) := blk_cell hj2.box 1
            have hb2 : wr.cell? ⟨bf, 2, none⟩ = some (.string s) := blk_cell hj2.box 2
            have JC := Lib.hid jc; have DI := Lib.hid di; have HCW := Lib.hid hcW
            have HG := Lib.hid (show 2 * L.length + N'.length + 1 = gk by rw [hg2]; simp; omega)
            have HNL := Lib.hid (show N'.length + L.length ≤ 300 by simp at hNL; omega)
            have HGE := Lib.hid (fun g (h : (Value.slice (some ⟨g2, 0, none⟩) m q2).ownBlock = some g) => jc.own.lt h)
            clear hj2 hd2 jc di hc2 hcW hp hm hmc hpm hg2 hNL hcm
            go_wp2_with fail
            refine (beside_any W H c2 s hW1 hW hH1 hH HCW.out wr).mono ?_
            rintro e w3 ⟨vB, rfl, nb⟩
            obtain ⟨AB, qB, rfl⟩ := nb.own.rd.shape
            rw [ints_len]
            obtain ⟨nB, hnB⟩ : ∃ nB, nB = (besideP W H c2).length := ⟨_, rfl⟩
            have hB4 : nB ≤ 4 := by rw [hnB, ← bsA_four]; exact bsA_len W H c2 4
            rw [ints_len, ← hnB] at nb
            rw [← hnB]
            have HNB := Lib.hid hnB
            have J3 := Lib.hid (JC.out.no nb.kp); have OB := Lib.hid nb.own
            have NE := Lib.hid (show ∀ g, (Value.slice AB nB qB).ownBlock = some g → w0.heap.size ≤ g ∧ (Value.slice (some ⟨g2, 0, none⟩) m q2).ownBlock ≠ some g by
              intro g hg
              have h1 := nb.ge g hg
              have h2 := JC.out.kp.size
              exact ⟨by omega, fun e => by have := HGE.out g e; omega⟩)
            clear nb hnB hb0 hb1 hb2 hcell hsl
            go_wp2_with fail
            obtain ⟨wc, rfl⟩ : ∃ wc : World, wc = wr := ⟨_, rfl⟩
            go_loopg [4, 52] (nB + 1) (fun g3 v jj wr => ∃ (j : Nat) (L N : List Nat), g3 = nB + 1 - j ∧ jj = .int .i64 j ∧ j ≤ nB ∧ 2 * L.length + N.length + 1 ≤ gk ∧ N.length + L.length ≤ 300 ∧ JnW W H s bf bm w0 v L N wr ∧ DfsI W H s l c2 j L N ∧ Own IK 3 wr (.slice AB nB qB) (ints (besideP W H c2)) ∧ ∀ g, (Value.slice AB nB qB).ownBlock = some g → w0.heap.size ≤ g ∧ v.ownBlock ≠ some g)
            case atStart => exact ⟨0, L, N', rfl, rfl, by omega, by have := HG.out; omega, HNL.out, J3.out, DI.out, OB.out, NE.out⟩
            case round =>
              obtain ⟨j, L2, N2, hg3, rfl, hj, hM, hNL2, jw, di, ob, ne⟩ := hrel
              obtain ⟨A3, q3, rfl⟩ := jw.own.rd.shape
              rw [ints_len] at jw ne ⊢
              obtain ⟨p3, hp3⟩ : ∃ p3, p3 = N2.length := ⟨_, rfl⟩
              rw [← hp3] at jw ne ⊢
              have hp3b : p3 ≤ 300 := by omega
              have HP3 := Lib.hid hp3
              have JW := Lib.hid jw; have DW := Lib.hid di; have OW := Lib.hid ob; have NW := Lib.hid ne; have HM := Lib.hid hM; have HL2 := Lib.hid hNL2
              clear jw di ob ne hM hNL2 hp3
              by_cases hlt : j < nB
              · have hltI : (j : Int) < (nB : Int) := by omega
                have hwj : IntKind.i64.wrap ((j : Int) + 1) = (j : Int) + 1 := IntWalk.i64_in _ (by omega)
                obtain ⟨b, hb⟩ : ∃ b, (besideP W H c2)[j]? = some b := ⟨_, List.getElem?_eq_getElem (by rw [← HNB.out]; exact hlt)⟩
                rcases OW.out.b with ⟨hv, _⟩ | ⟨gB, capB, hv, _, _, _⟩
                · simp only [Value.slice.injEq] at hv; omega
                simp only [Value.slice.injEq] at hv
                obtain ⟨rfl, hzz, rfl⟩ := hv
                clear hzz
                have hcb : wr.cell? ⟨gB, j, none⟩ = some (.int .i64 (b : Int)) := by have := OW.out.rd.intAt (ints_get hb); simpa using this
                have hlook := JW.out.set.look mapB (b : Int)
                have HBJ := Lib.hid hb
                by_cases hbL : b ∈ L2
                · rw [decide_eq_true (ints_mem.2 hbL)] at hlook
                  obtain ⟨w4, hdel, set4, kp4⟩ := JW.out.set.del mapB (b : Int)
                  rw [ints_filter] at set4
                  have J4 := Lib.hid (JW.out.map set4 kp4)
                  have O4 := Lib.hid (OW.out.kp kp4 (fun g hg e => by have e : g = bm := e; have := (NW.out g hg).1; have := JW.out.lt; omega))
                  have D4 := Lib.hid (DW.out.meet hb hbL)
                  have HLL := Lib.hid (filter_ne_lt hbL)
                  clear set4 kp4 hb hbL
                  go_wp2_with (at_builtin; refine wpl_append elI rfl (.tmp 61) (.tmp 63) rfl rfl rfl (l := ints N2) (m := [(b : Int)]) ?c1 ?c2 ?c3 ?c4 ?c5)
                  case c1 => exact J4.out.own.alloc _
                  case c2 => exact Rd.litAt IK 3 _ _ [(b : Int)] rfl (by unfold maxLen; simp) _ _ rfl rfl
                  case c3 => show (ints N2).length + 1 ≤ maxLen; rw [ints_len, ← HP3.out]; unfold maxLen; omega
                  case c4 => show ((ints N2).length + 1) * 8 ≤ _; rw [ints_len, ← HP3.out]; omega
                  case c5 =>
                    intro v' w' k1 k2 k3
                    rw [← ints_snoc] at k1
                    have J5 := J4.out.app ((Kp.refl No w4).alloc _) k1 k2 k3 (Nat.le_succ _)
                    have O5 := (O4.out.alloc (.cells #[.int .i64 (b : Int)] 3)).kp k2 (fun g hg e => (NW.out g hg).2 e)
                    have N5 : ∀ g, (Value.slice (some ⟨gB, 0, none⟩) nB qB).ownBlock = some g → w0.heap.size ≤ g ∧ v'.ownBlock ≠ some g := fun g hg => ⟨(NW.out g hg).1, fun e => by
                      rcases k3 g e with e | e
                      · exact (NW.out g hg).2 e
                      · have := O4.out.lt hg; have e : w4.heap.size + 1 ≤ g := e; omega⟩
                    obtain ⟨A5, q5, rfl⟩ := k1.rd.shape
                    have HJ5 := Lib.hid J5; have HO5 := Lib.hid O5; have HN5 := Lib.hid N5
                    clear J5 O5 N5 k1 k2 k3 hlook hdel hcb
                    go_wp2_with fail
                    go_roundg (nB + 1 - (j + 1))
                    case measure => omega
                    case rel => exact ⟨j + 1, _, N2 ++ [b], rfl, by go_num, by omega, by have := HM.out; have := HLL.out; simp; omega, by have := HL2.out; have := HLL.out; simp; omega, HJ5.out, D4.out, HO5.out, HN5.out⟩
                · rw [decide_eq_false (fun e => hbL (ints_mem.1 e))] at hlook
                  have D4 := Lib.hid (DW.out.seen hb hbL)
                  clear hb hbL
                  go_wp2_with fail
                  go_roundg (nB + 1 - (j + 1))
                  case measure => omega
                  case rel => exact ⟨j + 1, L2, N2, rfl, by go_num, by omega, HM.out, HL2.out, JW.out, D4.out, OW.out, NW.out⟩
              · obtain rfl : j = nB := by omega
                have hd0 : ¬ (j : Int) < (j : Int) := by omega
                have DE := Lib.hid (DfsI.done (by have := DW.out; rwa [HNB.out] at this))
                clear hlt
                go_wp2_with fail
                go_roundg (2 * L2.length + N2.length)
                case measure => have := HM.out; omega
                case rel => exact ⟨L2, N2, rfl, HL2.out, JW.out, DE.out⟩
end Go.Proofs.YtfpikgkbccgchaaGreatDoor

namespace Go.Proofs.YtfpikgkbccgchaaGreatDoor
set_option linter.unusedVariables false
set_option linter.unusedSimpArgs false
open Go.RowKit

def RightR (f : Flr) (w : World) (e : Ending) (w' : World) : Prop := e = .returned (.bool (rightB f)) ∧ Kp No w w'
def byTo (W H : Nat) (s : ByteArray) (c k : Nat) : Bool := ((besideP W H c).take k).any fun x => kdS s x == 2
theorem byTo_succ {W H : Nat} {s : ByteArray} {c k b : Nat} (h : (besideP W H c)[k]? = some b) : byTo W H s c (k + 1) = (byTo W H s c k || kdS s b == 2) := by
  unfold byTo; rw [List.take_add_one, h, List.any_append]; simp
theorem byTo_all {W H : Nat} {s : ByteArray} {c : Nat} (hW : 1 ≤ W) (hs : s.size = W * H) (hc : c < W * H) : byTo W H s c (besideP W H c).length = true ↔ ∃ j ∈ besideP W H c, laneI s j := by
  unfold byTo
  rw [List.take_length, List.any_eq_true]
  constructor
  · rintro ⟨x, hx, h⟩; exact ⟨x, hx, by rw [hs]; exact beside_lt hW hc hx, by simpa using h⟩
  · rintro ⟨x, hx, h⟩; exact ⟨x, hx, by simpa using h.2⟩
structure RtW (W H : Nat) (s : ByteArray) (bf : Nat) (w0 w : World) : Prop where
  box : w.heap[bf]? = some (.cells #[.int .i64 (W : Int), .int .i64 (H : Int), .string s] 23 (0, 0))
  kp : Kp No w0 w
theorem RtW.no {W H : Nat} {s : ByteArray} {bf : Nat} {w0 w w' : World} (h : RtW W H s bf w0 w) (hk : Kp No w w') : RtW W H s bf w0 w' := ⟨hk.blk h.box (no_no _), h.kp.no hk⟩
theorem right_no {f : Flr} (h : ¬ RightP f) : rightB f = false := rightB_f h

theorem right_dims (f : Flr) (w : World) (h : f.W < 1 ∨ 16 < f.W ∨ f.H < 1 ∨ 16 < f.H ∨ ((f.s.size : Int) ≠ f.W * f.H)) (hsz : f.s.size ≤ 9223372036854775807) :
    Calls Tryz.prog 31 #[f.val] w (RightR f w) := by
  have hR : rightB f = false := rightB_f fun r => by
    rcases h with h | h | h | h | h
    · exact absurd r.w1 (by omega)
    · exact absurd r.w2 (by omega)
    · exact absurd r.h1 (by omega)
    · exact absurd r.h2 (by omega)
    · exact h r.len
  have HR := Lib.hid hR
  unfold Flr.val
  obtain ⟨X, Y, s⟩ := f
  simp only at h hsz
  clear hR
  have K0 := Lib.hid ((Kp.refl No w).alloc (.cells #[.int .i64 X, .int .i64 Y, .string s] 23))
  by_cases h1 : X < 1
  · clear h
    go_enter Tryz.func31, Tryz.ntmps31
    go_wp2
    go_ret
    exact ⟨by rw [HR.out]; rfl, K0.out⟩
  by_cases h2 : 16 < X
  · clear h
    go_enter Tryz.func31, Tryz.ntmps31
    go_wp2
    go_ret
    exact ⟨by rw [HR.out]; rfl, K0.out⟩
  by_cases h3 : Y < 1
  · clear h
    go_enter Tryz.func31, Tryz.ntmps31
    go_wp2
    go_ret
    exact ⟨by rw [HR.out]; rfl, K0.out⟩
  by_cases h4 : 16 < Y
  · clear h
    go_enter Tryz.func31, Tryz.ntmps31
    go_wp2
    go_ret
    exact ⟨by rw [HR.out]; rfl, K0.out⟩
  · have h5 : (s.size : Int) ≠ X * Y := by rcases h with h | h | h | h | h <;> first | omega | exact h
    obtain ⟨P, hP⟩ : ∃ P, P = X * Y := ⟨_, rfl⟩
    have hP1 : 0 ≤ P := by rw [hP]; exact Int.mul_nonneg (by omega) (by omega)
    have hP2 : P ≤ 256 := by
      rw [hP]; exact Int.le_trans (Int.mul_le_mul_of_nonneg_right (show X ≤ 16 by omega) (by omega)) (by omega)
    have hw : IntKind.i64.wrap P = P := IntWalk.i64_in _ (by omega)
    rw [← hP] at h5
    obtain ⟨n, hn⟩ : ∃ n, n = s.size := ⟨_, rfl⟩
    have hnI : ((s.size : Nat) : Int) = (n : Int) := by omega
    rw [hnI] at h5
    have hb : ((n : Int) != P) = true := by simpa using h5
    have hP' := hP.symm
    clear h hP h5 hn hsz
    go_enter Tryz.func31, Tryz.ntmps31
    go_wp2
    go_ret
    exact ⟨by rw [HR.out]; rfl, K0.out⟩

set_option maxHeartbeats 2000000 in
set_option maxRecDepth 100000 in
theorem right_in (W H : Nat) (s : ByteArray) (hW1 : 1 ≤ W) (hW : W ≤ 16) (hH1 : 1 ≤ H) (hH : H ≤ 16) (hs : s.size = W * H) (w : World) :
    Calls Tryz.prog 31 #[(Flr.mk W H s).val] w (RightR (Flr.mk W H s) w) := by
  unfold RightR
  obtain ⟨R, hR⟩ : ∃ R, R = rightB (Flr.mk W H s) := ⟨_, rfl⟩
  rw [← hR]
  have HR := Lib.hid hR
  clear hR
  unfold Flr.val
  have hs256 : s.size ≤ 256 := by rw [hs]; exact Nat.mul_le_mul hW hH
  have HS := Lib.hid hs
  obtain ⟨n, hn⟩ : ∃ n, n = s.size := ⟨_, rfl⟩
  have hnI : ((s.size : Nat) : Int) = (n : Int) := by omega
  have hWH : (W : Int) * (H : Int) = (n : Int) := by rw [hn, hs]; simp
  have HN := Lib.hid hn
  have hn256 : n ≤ 256 := by omega
  have a1 : ¬ (W : Int) < 1 := by omega
  have a2 : ¬ (16 : Int) < (W : Int) := by omega
  have a3 : ¬ (H : Int) < 1 := by omega
  have a4 : ¬ (16 : Int) < (H : Int) := by omega
  clear hs hn hs256
  go_enter Tryz.func31, Tryz.ntmps31
  go_wp2
  obtain ⟨bf, hbf⟩ : ∃ bf, bf = w.heap.size := ⟨_, rfl⟩
  obtain ⟨w0, hw0⟩ : ∃ w0, w0 = w.alloc (.cells #[.int .i64 (W : Int), .int .i64 (H : Int), .string s] 23) := ⟨_, rfl⟩
  have R0 : Hid (RtW W H s bf w w0) := Lib.hid (by
    rw [hw0, hbf]
    exact ⟨blk_new w _, (Kp.refl _ _).alloc _⟩)
  rw [← hbf, ← hw0]
  clear hbf hw0 a1 a2 a3 a4
  go_loopg [43] (n + 1) (fun g2 kk wr => ∃ k : Nat, g2 = n + 1 - k ∧ kk = .int .i64 k ∧ k ≤ n ∧ (∀ i, i < k → kdS s i ≠ 0) ∧ RtW W H s bf w wr)
  case atStart => exact ⟨0, rfl, rfl, by omega, fun i hi => by omega, R0.out⟩
  case round =>
    obtain ⟨k, hgk, rfl, hk, hz, rw0⟩ := hrel
    have HZ := Lib.hid hz; have RW := Lib.hid rw0
    have hb2 : wr.cell? ⟨bf, 2, none⟩ = some (.string s) := blk_cell RW.out.box 2
    clear hz rw0
    by_cases hlt : k < n
    · have hltI : (k : Int) < (n : Int) := by omega
      have hwk : IntKind.i64.wrap ((k : Int) + 1) = (k : Int) + 1 := IntWalk.i64_in _ (by omega)
      have hks : k < s.size := by have := HN.out; omega
      have hksI : (k : Int) < ((s.size : Nat) : Int) := by omega
      have hbt := bt_at s k
      obtain ⟨K, hK⟩ : ∃ K, K = kindB (bt s k) := ⟨_, rfl⟩
      have hkd := fun w => kind_any (bt s k) w
      rw [← hK] at hkd
      have HK := Lib.hid (show K = kdS s k from hK)
      have HKD := Lib.hid hkd
      clear hK hkd
      by_cases h0 : K = 0
      · have h0b : ((K : Int) == 0) = true := by simp [h0]
        have hno : R = false := by rw [HR.out]; exact rightB_f fun r => r.kinds k hks (by rw [← HK.out, h0])
        have HNO := Lib.hid hno
        clear hno h0 hlt hks
        go_wp2_with (go_at_call 45; refine (HKD.out _).mono ?_; rintro e wz ⟨rfl, rfl⟩)
        go_ret
        exact ⟨by rw [HNO.out]; rfl, RW.out.kp⟩
      · have h0b : ((K : Int) == 0) = false := by simp; omega
        have HZ2 := Lib.hid (show ∀ i, i < k + 1 → kdS s i ≠ 0 by
          intro i hi
          rcases Nat.lt_or_ge i k with h | h
          · exact HZ.out i h
          · obtain rfl : i = k := by omega
            rw [← HK.out]; exact h0)
        clear h0 hlt hks
        go_wp2_with (go_at_call 45; refine (HKD.out _).mono ?_; rintro e wz ⟨rfl, rfl⟩)
        go_roundg (n + 1 - (k + 1))
        case measure => omega
        case rel => exact ⟨k + 1, rfl, by go_num, by omega, HZ2.out, RW.out⟩
    · obtain rfl : k = n := by omega
      have hd0 : ¬ (k : Int) < (k : Int) := by omega
      have hb0 : wr.cell? ⟨bf, 0, none⟩ = some (.int .i64 (W : Int)) := blk_cell RW.out.box 0
      have hb1 : wr.cell? ⟨bf, 1, none⟩ = some (.int .i64 (H : Int)) := blk_cell RW.out.box 1
      clear hlt
      go_wp2_with fail
      refine (docks_any (Flr.mk W H s) (by show s.size ≤ 2000; have := HN.out; omega) wr).mono ?_
      rintro e wd hdR
      rcases hdR with ⟨ds, vd, rfl, hds, nsd⟩ | ⟨rfl, hno, kpd⟩
      · have RD := Lib.hid (RW.out.no nsd.kp)
        have hb0 : wd.cell? ⟨bf, 0, none⟩ = some (.int .i64 (W : Int)) := blk_cell RD.out.box 0
        have hb1 : wd.cell? ⟨bf, 1, none⟩ = some (.int .i64 (H : Int)) := blk_cell RD.out.box 1
        have hb2 : wd.cell? ⟨bf, 2, none⟩ = some (.string s) := blk_cell RD.out.box 2
        have HDS := Lib.hid hds; have OD := Lib.hid nsd.own
        clear hds nsd
        go_wp2_with fail
        refine (joined_any W H s hW1 hW hH1 hH HS.out wd).mono ?_
        rintro e wj ⟨bj, rfl, hbj, kpj⟩
        have RJ := Lib.hid (RD.out.no kpj)
        have OJ := Lib.hid (OD.out.kpNo kpj)
        have HBJ := Lib.hid hbj
        clear hbj kpj
        cases bj with
        | false =>
          have hno : R = false := by rw [HR.out]; exact rightB_f fun r => by have := HBJ.out.2 r.join; simp at this
          have HNO := Lib.hid hno
          clear hno
          go_wp2_with fail
          go_ret
          exact ⟨by rw [HNO.out]; rfl, RJ.out.kp⟩
        | true =>
          obtain ⟨A, q, rfl⟩ := OD.out.rd.shape
          rw [ints_len] at OJ ⊢
          obtain ⟨m, hm⟩ : ∃ m, m = ds.length := ⟨_, rfl⟩
          rw [← hm] at OJ ⊢
          have HM := Lib.hid hm
          have hm8 : m ≤ 8 := by rw [hm]; exact HDS.out.len
          clear hm OD
          go_wp2_with fail
          obtain ⟨wo, rfl⟩ : ∃ wo : World, wo = wr := ⟨_, rfl⟩
          go_loopg [67] (m + 1) (fun g2 jj wx => ∃ j : Nat, g2 = m + 1 - j ∧ jj = .int .i64 j ∧ j ≤ m ∧ (∀ r d, r < j → ds[r]? = some d → ∃ x ∈ besideP W H d, laneI s x) ∧ RtW W H s bf w wx ∧ Own IK 3 wx (.slice A m q) (ints ds))
          case atStart => exact ⟨0, rfl, rfl, by omega, fun r d hr => by omega, RJ.out, OJ.out⟩
          case round =>
            obtain ⟨j, hgj, rfl, hj, hby, rx, ox⟩ := hrel
            have HBY := Lib.hid hby; have RX := Lib.hid rx; have OX := Lib.hid ox
            clear hby rx ox
            have hb0 : wr.cell? ⟨bf, 0, none⟩ = some (.int .i64 (W : Int)) := blk_cell RX.out.box 0
            have hb1 : wr.cell? ⟨bf, 1, none⟩ = some (.int .i64 (H : Int)) := blk_cell RX.out.box 1
            have hb2 : wr.cell? ⟨bf, 2, none⟩ = some (.string s) := blk_cell RX.out.box 2
            by_cases hlt : j < m
            · have hltI : (j : Int) < (m : Int) := by omega
              have hwj : IntKind.i64.wrap ((j : Int) + 1) = (j : Int) + 1 := IntWalk.i64_in _ (by omega)
              obtain ⟨d, hd⟩ : ∃ d, ds[j]? = some d := ⟨_, List.getElem?_eq_getElem (by rw [← HM.out]; exact hlt)⟩
              obtain ⟨hd1, hd2, hd3⟩ := HDS.out.at_ j d hd
              have hdW : d < W * H := by rw [← HS.out]; exact hd1
              rcases OX.out.b with ⟨hv, _⟩ | ⟨gB, capB, hv, _, _, _⟩
              · simp only [Value.slice.injEq] at hv; omega
              simp only [Value.slice.injEq] at hv
              obtain ⟨rfl, hzz, rfl⟩ := hv
              clear hzz
              have hcb : wr.cell? ⟨gB, j, none⟩ = some (.int .i64 (d : Int)) := by have := OX.out.rd.intAt (ints_get hd); simpa using this
              have HDJ := Lib.hid hd; have HDW := Lib.hid hdW; have HD1 := Lib.hid hd1; have HD2 := Lib.hid hd2
              clear hd hd1 hd2 hd3 hdW hlt
              go_wp2_with fail
              refine (beside_any W H d s hW1 hW hH1 hH HDW.out wr).mono ?_
              rintro e w3 ⟨vB, rfl, nb⟩
              obtain ⟨AB, qB, rfl⟩ := nb.own.rd.shape
              rw [ints_len] at nb ⊢
              obtain ⟨nB, hnB⟩ : ∃ nB, nB = (besideP W H d).length := ⟨_, rfl⟩
              have hB4 : nB ≤ 4 := by rw [hnB, ← bsA_four]; exact bsA_len W H d 4
              rw [← hnB] at nb ⊢
              have HNB := Lib.hid hnB
              have R3 := Lib.hid (RX.out.no nb.kp); have O3 := Lib.hid (OX.out.kpNo nb.kp); have NB := Lib.hid nb.own
              clear nb hnB hb0 hb1 hb2 hcb
              go_wp2_with fail
              obtain ⟨wc, rfl⟩ : ∃ wc : World, wc = wr := ⟨_, rfl⟩
              go_loopg [8, 75] (nB + 1) (fun g3 by_ ii wy => ∃ (i : Nat) (b : Bool), g3 = nB + 1 - i ∧ ii = .int .i64 i ∧ i ≤ nB ∧ by_ = .bool b ∧ b = byTo W H s d i ∧ RtW W H s bf w wy ∧ Own IK 3 wy (.slice (some ⟨gB, 0, none⟩) m q) (ints ds) ∧ Own IK 3 wy (.slice AB nB qB) (ints (besideP W H d)))
              case atStart => exact ⟨0, false, rfl, rfl, by omega, rfl, rfl, R3.out, O3.out, NB.out⟩
              case round =>
                obtain ⟨i, b, hgi, rfl, hi, rfl, hb, ry, oy, ob⟩ := hrel
                have HB := Lib.hid hb; have RY := Lib.hid ry; have OY := Lib.hid oy; have OB := Lib.hid ob
                clear hb ry oy ob
                by_cases hlt : i < nB
                · have hltI : (i : Int) < (nB : Int) := by omega
                  have hwi : IntKind.i64.wrap ((i : Int) + 1) = (i : Int) + 1 := IntWalk.i64_in _ (by omega)
                  obtain ⟨x, hx⟩ : ∃ x, (besideP W H d)[i]? = some x := ⟨_, List.getElem?_eq_getElem (by rw [← HNB.out]; exact hlt)⟩
                  have hxs : x < s.size := by rw [HS.out]; exact beside_lt hW1 HDW.out (List.mem_of_getElem? hx)
                  rcases OB.out.b with ⟨hv, _⟩ | ⟨gC, capC, hv, _, _, _⟩
                  · simp only [Value.slice.injEq] at hv; omega
                  simp only [Value.slice.injEq] at hv
                  obtain ⟨rfl, hzz, rfl⟩ := hv
                  clear hzz
                  have hcb : wr.cell? ⟨gC, i, none⟩ = some (.int .i64 (x : Int)) := by have := OB.out.rd.intAt (ints_get hx); simpa using this
                  have hb2 : wr.cell? ⟨bf, 2, none⟩ = some (.string s) := blk_cell RY.out.box 2
                  have hxsI : (x : Int) < ((s.size : Nat) : Int) := by omega
                  have hxn : x < k := by have := HN.out; omega
                  have hbt := bt_at s x
                  obtain ⟨K, hK⟩ : ∃ K, K = kindB (bt s x) := ⟨_, rfl⟩
                  have hkd := fun w => kind_any (bt s x) w
                  rw [← hK] at hkd
                  have HKD := Lib.hid hkd
                  obtain ⟨t, ht⟩ : ∃ t : Bool, t = ((K : Int) == 2) := ⟨_, rfl⟩
                  have htI := ht.symm
                  have HB2 := Lib.hid (show (b || t) = byTo W H s d (i + 1) by
                    rw [byTo_succ hx, ← HB.out, ht, hK]
                    congr 1
                    show _ = (kindB (bt s x) == 2)
                    rw [Bool.eq_iff_iff]; simp; omega)
                  clear hK hkd ht hx hlt
                  cases b with
                  | false =>
                    go_wp2_with (go_at_call 45; refine (HKD.out _).mono ?_; rintro e wz ⟨rfl, rfl⟩)
                    go_roundg (nB + 1 - (i + 1))
                    case measure => omega
                    case rel => exact ⟨i + 1, t, rfl, by go_num, by omega, rfl, by rw [← HB2.out]; simp, RY.out, OY.out, OB.out⟩
                  | true =>
                    go_wp2_with (go_at_call 45; refine (HKD.out _).mono ?_; rintro e wz ⟨rfl, rfl⟩)
                    go_roundg (nB + 1 - (i + 1))
                    case measure => omega
                    case rel => exact ⟨i + 1, true, rfl, by go_num, by omega, rfl, by rw [← HB2.out]; simp, RY.out, OY.out, OB.out⟩
                · obtain rfl : i = nB := by omega
                  have hd0 : ¬ (i : Int) < (i : Int) := by omega
                  have HBE := Lib.hid (show b = true ↔ ∃ j ∈ besideP W H d, laneI s j by rw [HB.out, HNB.out]; exact byTo_all hW1 HS.out HDW.out)
                  clear hlt
                  cases b with
                  | false =>
                    have hno : R = false := by rw [HR.out]; exact rightB_f fun r => by have := HBE.out.2 (r.by_ d HD1.out HD2.out); simp at this
                    have HNO := Lib.hid hno
                    clear hno
                    go_wp2_with fail
                    go_ret
                    exact ⟨by rw [HNO.out]; rfl, RY.out.kp⟩
                  | true =>
                    have HBY2 := Lib.hid (show ∀ r e, r < j + 1 → ds[r]? = some e → ∃ x ∈ besideP W H e, laneI s x by
                      intro r e hr he
                      rcases Nat.lt_or_ge r j with h | h
                      · exact HBY.out r e h he
                      · obtain rfl : r = j := by omega
                        rw [HDJ.out] at he
                        simp at he; subst he
                        exact HBE.out.1 rfl)
                    go_wp2_with fail
                    go_roundg (m + 1 - (j + 1))
                    case measure => omega
                    case rel => exact ⟨j + 1, rfl, by go_num, by omega, HBY2.out, RY.out, OY.out⟩
            · obtain rfl : j = m := by omega
              have hd0 : ¬ (j : Int) < (j : Int) := by omega
              have hyes : R = true := by
                rw [HR.out]
                refine rightB_t ⟨by simp; omega, by simp; omega, by simp; omega, by simp; omega, by simp [HS.out], fun i hi => HZ.out i (by have := HN.out; have hi : i < s.size := hi; omega), ⟨ds, HDS.out⟩, by have := HBJ.out; simpa using this, fun i hi h3 => ?_⟩
                have := HDS.out.all i hi h3
                have hl := (List.getElem?_eq_some_iff.1 this).1
                simpa using HBY.out _ i (by rw [HM.out]; exact hl) this
              have HYES := Lib.hid hyes
              clear hyes hlt
              go_wp2_with fail
              go_ret
              exact ⟨by rw [HYES.out]; rfl, RX.out.kp⟩
      · have hno : R = false := by rw [HR.out]; exact rightB_f fun r => hno r.docks
        have HNO := Lib.hid hno
        have KD := Lib.hid (RW.out.kp.no kpd)
        clear hno kpd
        go_wp2_with fail
        go_ret
        exact ⟨by rw [HNO.out]; rfl, KD.out⟩

theorem right_any (f : Flr) (hsz : f.s.size ≤ 9223372036854775807) (w : World) : Calls Tryz.prog 31 #[f.val] w (RightR f w) := by
  by_cases h : f.W < 1 ∨ 16 < f.W ∨ f.H < 1 ∨ 16 < f.H ∨ ((f.s.size : Int) ≠ f.W * f.H)
  · exact right_dims f w h hsz
  · obtain ⟨X, Y, s⟩ := f
    simp only at h
    obtain ⟨W, rfl⟩ : ∃ W : Nat, X = W := ⟨X.toNat, by omega⟩
    obtain ⟨H, rfl⟩ : ∃ H : Nat, Y = H := ⟨Y.toNat, by omega⟩
    refine right_in W H s (by omega) (by omega) (by omega) (by omega) ?_ w
    have : (s.size : Int) = W * H := by
      by_cases hh : (s.size : Int) = W * H
      · exact hh
      · exact absurd (Or.inr (Or.inr (Or.inr (Or.inr hh)))) h
    exact_mod_cast this
end Go.Proofs.YtfpikgkbccgchaaGreatDoor

namespace Go.Proofs.YtfpikgkbccgchaaGreatDoor
set_option linter.unusedVariables false
set_option linter.unusedSimpArgs false
open Go.RowKit

def docksP (s : ByteArray) (k : Nat) : List Nat := (List.range k).filter fun i => kdS s i == 3
theorem docksP_in {s : ByteArray} {k : Nat} (h : kdS s k = 3) : docksP s (k + 1) = docksP s k ++ [k] := by
  unfold docksP; rw [List.range_succ, List.filter_append]; simp [h]
theorem docksP_out {s : ByteArray} {k : Nat} (h : kdS s k ≠ 3) : docksP s (k + 1) = docksP s k := by
  unfold docksP; rw [List.range_succ, List.filter_append]; simp [h]
theorem DocksL.steps {s : ByteArray} {ds : List Nat} (h : DocksL s ds) : ∀ k, k ≤ s.size → ∃ a, DkI s k a (docksP s k).length := by
  intro k
  induction k with
  | zero => intro _; exact ⟨_, DkI.start s⟩
  | succ k ih =>
    intro hk
    obtain ⟨a, ha⟩ := ih (by omega)
    by_cases h3 : kdS s k = 3
    · rw [docksP_in h3]
      have hd := kd_dock h3
      have hlt : bt s k - 48 < a.length := by rw [ha.len]; omega
      rcases hx : a[bt s k - 48] with _ | x
      · exact ⟨_, by simpa using ha.take (r := bt s k - 48) h3 (by omega) (by rw [List.getElem?_eq_getElem hlt, hx])⟩
      · exact absurd ⟨ds, h⟩ (ha.twice (r := bt s k - 48) (x := x) (by omega) h3 (by omega) (by rw [List.getElem?_eq_getElem hlt, hx]))
    · rw [docksP_out h3]
      exact ⟨a, ha.skip h3⟩
theorem DocksL.count {s : ByteArray} {ds : List Nat} (h : DocksL s ds) : ds.length = (docksP s s.size).length := by
  obtain ⟨a, ha⟩ := h.steps s.size (Nat.le_refl _)
  exact ((ha.shape h).2).symm
def dockAt (s : ByteArray) (r : Nat) : Option Nat := (List.range s.size).find? fun i => kdS s i == 3 && bt s i == 48 + r
theorem DocksL.find {s : ByteArray} {ds : List Nat} (h : DocksL s ds) (r : Nat) : dockAt s r = ds[r]? := by
  unfold dockAt
  cases hf : (List.range s.size).find? fun i => kdS s i == 3 && bt s i == 48 + r with
  | some x =>
    have h1 := List.find?_some hf
    have h2 := List.mem_of_find?_eq_some hf
    simp at h1 h2
    have := h.all x h2 h1.1
    rw [h1.2, Nat.add_sub_cancel_left] at this
    exact this.symm
  | none =>
    cases hd : ds[r]? with
    | none => rfl
    | some i =>
      obtain ⟨h1, h2, h3⟩ := h.at_ r i hd
      rw [List.find?_eq_none] at hf
      have := hf i (by simpa using h1)
      simp [h2, h3] at this

/-! ### What is told of a floor -/
noncomputable def robotsP (f : Flr) : Nat := if rightB f = true then (docksP f.s f.s.size).length else 0
noncomputable def dockP (f : Flr) (n : Int) : Option Nat := if rightB f = true ∧ 0 ≤ n then dockAt f.s n.toNat else none
noncomputable def isB (f : Flr) (c k : Int) : Bool := decide (0 ≤ c) && decide (c < f.s.size) && ((kdS f.s c.toNat : Int) == k) && rightB f
noncomputable def zoneP (f : Flr) (c : Int) : Option Nat := if isB f c 2 = true then some (bt f.s c.toNat - 97) else none
noncomputable def nearP (f : Flr) (c : Int) : List Nat := if isB f c 2 = true ∨ isB f c 3 = true then (besideP f.W.toNat f.H.toNat c.toNat).filter fun x => kdS f.s x != 1 else []
noncomputable def lanesP (f : Flr) : List Nat := if rightB f = true then lanesTo f.s f.s.size else []
def ZVal (o : Option Nat) : Value := .tuple #[.int .i64 ((o.getD 0 : Nat) : Int), .bool o.isSome]

structure BxW (f : Flr) (bf : Nat) (w0 w : World) : Prop where
  box : w.heap[bf]? = some (.cells #[.int .i64 f.W, .int .i64 f.H, .string f.s] 23 (0, 0))
  kp : Kp No w0 w
theorem BxW.no {f : Flr} {bf : Nat} {w0 w w' : World} (h : BxW f bf w0 w) (hk : Kp No w w') : BxW f bf w0 w' := ⟨hk.blk h.box (no_no _), h.kp.no hk⟩
theorem BxW.new (f : Flr) (w : World) : BxW f w.heap.size w (w.alloc (.cells #[.int .i64 f.W, .int .i64 f.H, .string f.s] 23)) := ⟨blk_new w _, (Kp.refl _ _).alloc _⟩
theorem BxW.c0 {f : Flr} {bf : Nat} {w0 w : World} (h : BxW f bf w0 w) : w.cell? ⟨bf, 0, none⟩ = some (.int .i64 f.W) := blk_cell h.box 0
theorem BxW.c1 {f : Flr} {bf : Nat} {w0 w : World} (h : BxW f bf w0 w) : w.cell? ⟨bf, 1, none⟩ = some (.int .i64 f.H) := blk_cell h.box 1
theorem BxW.c2 {f : Flr} {bf : Nat} {w0 w : World} (h : BxW f bf w0 w) : w.cell? ⟨bf, 2, none⟩ = some (.string f.s) := blk_cell h.box 2

theorem right_at (f : Flr) (hsz : f.s.size ≤ 9223372036854775807) (b : Bool) (hb : rightB f = b) (w : World) : Calls Tryz.prog 31 #[f.val] w fun e w' => e = .returned (.bool b) ∧ Kp No w w' := by
  subst hb; exact right_any f hsz w

set_option maxRecDepth 100000 in
theorem is_any (f : Flr) (hsz : f.s.size ≤ 9223372036854775807) (c k : Int) (hc : c ≤ 9223372036854775807) (w : World) :
    Calls Tryz.prog 76 #[f.val, .int .i64 c, .int .i64 k] w fun e w' => e = .returned (.bool (isB f c k)) ∧ Kp No w w' := by
  obtain ⟨R, hR⟩ : ∃ R, R = isB f c k := ⟨_, rfl⟩
  rw [← hR]
  unfold isB at hR
  have HSZ := Lib.hid hsz
  obtain ⟨n, hn⟩ : ∃ n, n = f.s.size := ⟨_, rfl⟩
  have hnI : ((f.s.size : Nat) : Int) = (n : Int) := by omega
  have HN := Lib.hid hn
  rw [← hn] at hsz
  by_cases h0 : 0 ≤ c
  · have h0b : decide (0 ≤ c) = true := by simpa using h0
    obtain ⟨j, rfl⟩ : ∃ j : Nat, c = j := ⟨c.toNat, by omega⟩
    by_cases h1 : j < n
    · have h1I : (j : Int) < (n : Int) := by omega
      have h1s : j < f.s.size := by omega
      have h1sI : (j : Int) < ((f.s.size : Nat) : Int) := by omega
      obtain ⟨K, hK⟩ : ∃ K, K = kindB (bt f.s j) := ⟨_, rfl⟩
      have hbt := bt_at f.s j
      have hkd := fun w => kind_any (bt f.s j) w
      rw [← hK] at hkd
      have HKD := Lib.hid hkd
      have e1 : R = (((K : Int) == k) && rightB f) := by rw [hR, hK]; simp [h0, h1s, kdS]
      obtain ⟨b, hb⟩ : ∃ b, rightB f = b := ⟨_, rfl⟩
      rw [hb] at e1
      have HRT := Lib.hid (right_at f HSZ.out b hb)
      have HE := Lib.hid e1
      unfold Flr.val
      unfold Flr.val at HRT
      clear hR hkd hK e1 hb h1 hn h0
      by_cases h2 : (K : Int) = k
      · have h2b : ((K : Int) == k) = true := by simp [h2]
        rw [h2b, Bool.true_and] at HE
        have hBx := BxW.new f w
        have HBX := Lib.hid hBx
        clear h2 hBx
        go_enter Tryz.func76, Tryz.ntmps76
        go_wp2_with (first | (go_at_call 45; refine (HKD.out _).mono ?_; rintro e wz ⟨rfl, rfl⟩) | (go_at_call 31; refine (HRT.out _).mono ?_; rintro e wz ⟨rfl, kpz⟩))
        go_ret
        exact ⟨by rw [HE.out]; rfl, HBX.out.kp.no kpz⟩
      · have h2b : ((K : Int) == k) = false := by simpa using h2
        rw [h2b, Bool.false_and] at HE
        have HBX := Lib.hid (BxW.new f w)
        clear h2
        go_enter Tryz.func76, Tryz.ntmps76
        go_wp2_with (first | (go_at_call 45; refine (HKD.out _).mono ?_; rintro e wz ⟨rfl, rfl⟩) | (go_at_call 31; refine (HRT.out _).mono ?_; rintro e wz ⟨rfl, kpz⟩))
        go_ret
        exact ⟨by rw [HE.out]; rfl, HBX.out.kp⟩
    · have h1I : ¬ (j : Int) < (n : Int) := by omega
      have HE := Lib.hid (show R = false by rw [hR]; simp; intro _ h; omega)
      have HBX := Lib.hid (BxW.new f w)
      unfold Flr.val
      clear hR h1 hn h0
      go_enter Tryz.func76, Tryz.ntmps76
      go_wp2
      go_ret
      exact ⟨by rw [HE.out]; rfl, HBX.out.kp⟩
  · have h0b : decide (0 ≤ c) = false := by simpa using h0
    have HE := Lib.hid (show R = false by rw [hR]; simp [h0])
    have HBX := Lib.hid (BxW.new f w)
    unfold Flr.val
    clear hR hn
    go_enter Tryz.func76, Tryz.ntmps76
    go_wp2
    go_ret
    exact ⟨by rw [HE.out]; rfl, HBX.out.kp⟩

theorem is_at (f : Flr) (hsz : f.s.size ≤ 9223372036854775807) (c k : Int) (hc : c ≤ 9223372036854775807) (b : Bool) (hb : isB f c k = b) (w : World) : Calls Tryz.prog 76 #[f.val, .int .i64 c, .int .i64 k] w fun e w' => e = .returned (.bool b) ∧ Kp No w w' := by
  subst hb; exact is_any f hsz c k hc w
theorem isB_iff {f : Flr} {c k : Int} : isB f c k = true ↔ 0 ≤ c ∧ c < f.s.size ∧ (kdS f.s c.toNat : Int) = k ∧ RightP f := by
  unfold isB; simp [rightB_iff, and_assoc]

theorem zone_any (f : Flr) (hsz : f.s.size ≤ 9223372036854775807) (c : Int) (hc : c ≤ 9223372036854775807) (w : World) :
    Calls Tryz.prog 32 #[f.val, .int .i64 c] w fun e w' => e = .returned (ZVal (zoneP f c)) ∧ Kp No w w' := by
  obtain ⟨Z, hZ⟩ : ∃ Z, Z = zoneP f c := ⟨_, rfl⟩
  rw [← hZ]
  unfold zoneP at hZ
  have HBX := Lib.hid (BxW.new f w)
  cases hb : isB f c 2 with
  | true =>
    rw [if_pos hb] at hZ
    have HIS := Lib.hid (is_at f hsz c 2 hc true hb)
    obtain ⟨h1, h2, h3, h4⟩ := isB_iff.1 hb
    obtain ⟨j, rfl⟩ : ∃ j : Nat, c = j := ⟨c.toNat, by omega⟩
    have hj : j < f.s.size := by omega
    have hbt := bt_at f.s j
    obtain ⟨B, hB⟩ : ∃ B, B = bt f.s j := ⟨_, rfl⟩
    have hl := kd_lane (c := B) (by rw [hB]; have : kdS f.s j = 2 := by simp at h3; omega
                                    exact this)
    have hsub : IntKind.u8.wrap ((B : Int) - 97) = ((B - 97 : Nat) : Int) := by rw [IntWalk.u8_in _ (by omega)]; omega
    have hcv : IntKind.i64.wrap ((B - 97 : Nat) : Int) = ((B - 97 : Nat) : Int) := IntWalk.i64_in _ (by omega)
    rw [← hB] at hbt
    simp only [Int.toNat_natCast] at hZ
    rw [← hB] at hZ
    subst hZ
    obtain ⟨q, hq⟩ : ∃ q, q = B - 97 := ⟨_, rfl⟩
    rw [← hq] at hsub hcv ⊢
    have hq25 : q ≤ 25 := by omega
    unfold Flr.val
    unfold Flr.val at HIS
    clear hb h1 h3 h4 hq hB hl
    go_enter Tryz.func32, Tryz.ntmps32
    go_wp2_with fail
    refine (HIS.out _).mono ?_
    rintro e w1 ⟨rfl, kp1⟩
    have B1 := Lib.hid (HBX.out.no kp1)
    have hb2 := B1.out.c2
    clear kp1
    go_wp2
    go_ret2
    exact ⟨rfl, B1.out.kp⟩
  | false =>
    rw [if_neg (by simp [hb])] at hZ
    subst hZ
    have HIS := Lib.hid (is_at f hsz c 2 hc false hb)
    unfold Flr.val
    unfold Flr.val at HIS
    clear hb
    go_enter Tryz.func32, Tryz.ntmps32
    go_wp2_with fail
    refine (HIS.out _).mono ?_
    rintro e w1 ⟨rfl, kp1⟩
    have B1 := Lib.hid (HBX.out.no kp1)
    clear kp1
    go_wp2
    go_ret2
    exact ⟨rfl, B1.out.kp⟩

theorem RightP.s256 {f : Flr} (r : RightP f) : f.s.size ≤ 256 := by
  have := r.len
  have h1 := r.w1; have h2 := r.w2; have h3 := r.h1; have h4 := r.h2
  have h5 : f.W * f.H ≤ 16 * 16 := Int.mul_le_mul h2 h4 (by omega) (by omega)
  omega

theorem robots_any (f : Flr) (hsz : f.s.size ≤ 9223372036854775807) (w : World) :
    Calls Tryz.prog 18 #[f.val] w fun e w' => e = .returned (.int .i64 ((robotsP f : Nat) : Int)) ∧ Kp No w w' := by
  obtain ⟨Z, hZ⟩ : ∃ Z, Z = robotsP f := ⟨_, rfl⟩
  rw [← hZ]
  unfold robotsP at hZ
  have HBX := Lib.hid (BxW.new f w)
  cases hb : rightB f with
  | true =>
    rw [if_pos hb] at hZ
    have HRT := Lib.hid (right_at f hsz true hb)
    have HDK := Lib.hid (docks_any f (by have := (rightB_iff.1 hb).s256; omega))
    have HZ := Lib.hid hZ
    unfold Flr.val at HRT HDK ⊢
    have HNO := Lib.hid (rightB_iff.1 hb).docks
    clear hb hZ
    go_enter Tryz.func18, Tryz.ntmps18
    go_wp2_with fail
    refine (HRT.out _).mono ?_
    rintro e w1 ⟨rfl, kp1⟩
    have B1 := Lib.hid (HBX.out.no kp1)
    have hb0 := B1.out.c0; have hb1 := B1.out.c1; have hb2 := B1.out.c2
    clear kp1
    go_wp2_with fail
    refine (HDK.out _).mono ?_
    rintro e w2 hd
    rcases hd with ⟨ds, vd, rfl, hds, nsd⟩ | ⟨rfl, hno, kpd⟩
    · obtain ⟨A, q, rfl⟩ := nsd.own.rd.shape
      obtain ⟨m, hm⟩ : ∃ m, m = ds.length := ⟨_, rfl⟩
      rw [ints_len, ← hm]
      have HM := Lib.hid (show m = Z by rw [hm, HZ.out]; exact hds.count)
      have K2 := Lib.hid (B1.out.kp.no nsd.kp)
      clear nsd hds hm hb0 hb1 hb2
      go_wp2_with fail
      go_ret
      exact ⟨by rw [HM.out]; rfl, K2.out⟩
    · exact absurd HNO.out hno
  | false =>
    rw [if_neg (by simp [hb])] at hZ
    subst hZ
    have HRT := Lib.hid (right_at f hsz false hb)
    unfold Flr.val at HRT ⊢
    clear hb
    go_enter Tryz.func18, Tryz.ntmps18
    go_wp2_with fail
    refine (HRT.out _).mono ?_
    rintro e w1 ⟨rfl, kp1⟩
    have B1 := Lib.hid (HBX.out.no kp1)
    clear kp1
    go_wp2
    go_ret
    exact ⟨rfl, B1.out.kp⟩
theorem dock_any (f : Flr) (hsz : f.s.size ≤ 9223372036854775807) (c : Int) (hc : c ≤ 9223372036854775807) (w : World) :
    Calls Tryz.prog 34 #[f.val, .int .i64 c] w fun e w' => e = .returned (ZVal (dockP f c)) ∧ Kp No w w' := by
  obtain ⟨Z, hZ⟩ : ∃ Z, Z = dockP f c := ⟨_, rfl⟩
  rw [← hZ]
  unfold dockP at hZ
  have HBX := Lib.hid (BxW.new f w)
  cases hb : rightB f with
  | true =>
    have HRT := Lib.hid (right_at f hsz true hb)
    have HDK := Lib.hid (docks_any f (by have := (rightB_iff.1 hb).s256; omega))
    have HZ := Lib.hid (show Z = if 0 ≤ c then dockAt f.s c.toNat else none by rw [hZ]; simp [hb])
    unfold Flr.val at HRT HDK ⊢
    have HNO := Lib.hid (rightB_iff.1 hb).docks
    clear hb hZ
    go_enter Tryz.func34, Tryz.ntmps34
    go_wp2_with fail
    refine (HRT.out _).mono ?_
    rintro e w1 ⟨rfl, kp1⟩
    have B1 := Lib.hid (HBX.out.no kp1)
    have hb0 := B1.out.c0; have hb1 := B1.out.c1; have hb2 := B1.out.c2
    clear kp1
    go_wp2_with fail
    refine (HDK.out _).mono ?_
    rintro e w2 hd
    rcases hd with ⟨ds, vd, rfl, hds, nsd⟩ | ⟨rfl, hno, kpd⟩
    · have HDS := Lib.hid hds
      have K2 := Lib.hid (B1.out.kp.no nsd.kp)
      have OW := Lib.hid nsd.own
      obtain ⟨A, q, rfl⟩ := nsd.own.rd.shape
      obtain ⟨m, hm⟩ : ∃ m, m = ds.length := ⟨_, rfl⟩
      rw [ints_len, ← hm] at OW ⊢
      have HM := Lib.hid hm
      have hm8 : m ≤ 8 := by rw [hm]; exact hds.len
      clear nsd hds hm hb0 hb1 hb2
      by_cases h0 : c < 0
      · have HE := Lib.hid (show Z = none by rw [HZ.out, if_neg (by omega)])
        go_wp2_with fail
        go_ret2
        exact ⟨by rw [HE.out]; rfl, K2.out⟩
      · have h0b : decide (c < 0) = false := by simpa using h0
        obtain ⟨j, rfl⟩ : ∃ j : Nat, c = j := ⟨c.toNat, by omega⟩
        by_cases h1 : j < m
        · have h1I : ¬ (m : Int) ≤ (j : Int) := by omega
          obtain ⟨d, hd⟩ : ∃ d, ds[j]? = some d := ⟨_, List.getElem?_eq_getElem (by rw [← HM.out]; exact h1)⟩
          have HE := Lib.hid (show Z = some d by rw [HZ.out, if_pos (by omega), Int.toNat_natCast, HDS.out.find, hd])
          rcases OW.out.b with ⟨hv, _⟩ | ⟨gB, capB, hv, _, _, _⟩
          · simp only [Value.slice.injEq] at hv; omega
          simp only [Value.slice.injEq] at hv
          obtain ⟨rfl, hzz, rfl⟩ := hv
          clear hzz
          have hcb : w2.cell? ⟨gB, j, none⟩ = some (.int .i64 (d : Int)) := by have := OW.out.rd.intAt (ints_get hd); simpa using this
          have h1J : (j : Int) < (m : Int) := by omega
          clear hd h0
          go_wp2_with fail
          go_ret2
          exact ⟨by rw [HE.out]; rfl, K2.out⟩
        · have h1I : (m : Int) ≤ (j : Int) := by omega
          have h1N : m ≤ j := by omega
          have HE := Lib.hid (show Z = none by rw [HZ.out, if_pos (by omega), Int.toNat_natCast, HDS.out.find, List.getElem?_eq_none (by rw [← HM.out]; omega)])
          clear h0 h1
          go_wp2_with fail
          go_ret2
          exact ⟨by rw [HE.out]; rfl, K2.out⟩
    · exact absurd HNO.out hno
  | false =>
    rw [if_neg (by simp [hb])] at hZ
    subst hZ
    have HRT := Lib.hid (right_at f hsz false hb)
    unfold Flr.val at HRT ⊢
    clear hb
    go_enter Tryz.func34, Tryz.ntmps34
    go_wp2_with fail
    refine (HRT.out _).mono ?_
    rintro e w1 ⟨rfl, kp1⟩
    have B1 := Lib.hid (HBX.out.no kp1)
    clear kp1
    go_wp2
    go_ret2
    exact ⟨rfl, B1.out.kp⟩
end Go.Proofs.YtfpikgkbccgchaaGreatDoor

namespace Go.Proofs.YtfpikgkbccgchaaGreatDoor
set_option linter.unusedVariables false
set_option linter.unusedSimpArgs false
open Go.RowKit

/-- The pieces between the bytes 10. -/
def pcs : List UInt8 → List (List UInt8)
  | [] => [[]]
  | c :: l => if c = 10 then [] :: pcs l else match pcs l with
    | [] => [[c]]
    | p :: ps => (c :: p) :: ps
theorem pcs_ne (l : List UInt8) : pcs l ≠ [] := by
  cases l with
  | nil => simp [pcs]
  | cons c l => unfold pcs; split; simp; split <;> simp
theorem pcs_free {l : List UInt8} (h : (10 : UInt8) ∉ l) : pcs l = [l] := by
  induction l with
  | nil => rfl
  | cons c l ih =>
    rw [pcs, if_neg (fun e => h (by simp [e])), ih (fun e => h (by simp [e]))]
theorem pcs_cut {a : List UInt8} (b : List UInt8) (h : (10 : UInt8) ∉ a) : pcs (a ++ 10 :: b) = a :: pcs b := by
  induction a with
  | nil => rw [List.nil_append, pcs, if_pos rfl]
  | cons c a ih =>
    rw [List.cons_append, pcs, if_neg (fun e => h (by simp [e])), ih (fun e => h (by simp [e]))]
theorem pcs_snoc10 : ∀ (l : List UInt8), pcs (l ++ [10]) = pcs l ++ [[]] := by
  intro l
  induction l with
  | nil => rfl
  | cons c l ih =>
    rw [List.cons_append, pcs, pcs, ih]
    split
    · rfl
    · rcases h : pcs l with _ | ⟨p, ps⟩
      · exact absurd h (pcs_ne l)
      · rfl
theorem pcs_snoc : ∀ (l : List UInt8) (L : List (List UInt8)) (cur : List UInt8) (c : UInt8), c ≠ 10 → pcs l = L ++ [cur] → pcs (l ++ [c]) = L ++ [cur ++ [c]] := by
  intro l
  induction l with
  | nil =>
    intro L cur c hc h
    rcases L with _ | ⟨x, L⟩
    · simp [pcs] at h; subst h; simp [pcs, hc]
    · simp [pcs] at h
  | cons d l ih =>
    intro L cur c hc h
    rw [List.cons_append, pcs]
    rw [pcs] at h
    split at h
    · rename_i e
      rw [if_pos e]
      rcases L with _ | ⟨x, L⟩
      · simp at h; exact absurd h.2 (pcs_ne l)
      · simp at h
        rw [ih L cur c hc h.2, ← h.1]; rfl
    · rename_i e
      rw [if_neg e]
      rcases hp : pcs l with _ | ⟨p, ps⟩
      · exact absurd hp (pcs_ne l)
      · rw [hp] at h
        simp only at h
        rcases L with _ | ⟨x, L⟩
        · simp at h
          obtain ⟨rfl, rfl⟩ := h
          rw [ih [] p c hc hp]; rfl
        · simp at h
          obtain ⟨rfl, rfl⟩ := h
          rw [ih (p :: L) cur c hc hp]; rfl
/-- A text's rows. -/
def rowsL (l : List UInt8) : List (List UInt8) := if (pcs l).getLast? = some [] then (pcs l).dropLast else pcs l
theorem rowsL_of {l : List UInt8} {L : List (List UInt8)} {cur : List UInt8} (h : pcs l = L ++ [cur]) : rowsL l = if cur = [] then L else L ++ [cur] := by
  unfold rowsL; rw [h]; simp
theorem index_miss : ∀ {l : List UInt8}, (10 : UInt8) ∉ l → Lib.indexByte l 10 = -1 := by
  intro l
  induction l with
  | nil => intro _; rfl
  | cons c l ih =>
    intro h
    have h1 : (c == 10) = false := by simp; intro e; exact h (by simp [e])
    rw [Lib.indexByte, h1, ih (fun e => h (by simp [e]))]; rfl
theorem index_hit : ∀ {a : List UInt8} (b : List UInt8), (10 : UInt8) ∉ a → Lib.indexByte (a ++ 10 :: b) 10 = a.length := by
  intro a b
  induction a with
  | nil => intro _; rfl
  | cons c a ih =>
    intro h
    have h1 : (c == 10) = false := by simp; intro e; exact h (by simp [e])
    have h2 := ih (fun e => h (by simp [e]))
    rw [List.cons_append, Lib.indexByte, h1, h2, if_neg (by simp), if_neg (by simp <;> omega)]; simp
theorem splitK_pcs : ∀ (k : Nat) (l : List UInt8), l.count 10 = k → Lib.splitK [10] 0 k l = pcs l := by
  intro k
  induction k with
  | zero => intro l h; rw [pcs_free (List.count_eq_zero.1 h)]; rfl
  | succ k ih =>
    intro l h
    have hm : (10 : UInt8) ∈ l := by
      rcases Classical.em ((10 : UInt8) ∈ l) with hh | hh
      · exact hh
      · rw [List.count_eq_zero.2 hh] at h; cases h
    obtain ⟨a, b, rfl, ha⟩ := List.eq_append_cons_of_mem hm
    rw [List.count_append, List.count_eq_zero.2 ha, List.count_cons_self, Nat.zero_add] at h
    rw [Lib.splitK, Lib.index_one, index_hit b ha, if_neg (by simp <;> omega), pcs_cut b ha, Nat.add_zero, Int.toNat_natCast, List.take_left, ih _ (by simpa using h)]
    simp
theorem split_pcs (l : List UInt8) : Lib.splitK [10] 0 (Lib.count l [10]) l = pcs l := splitK_pcs _ _ (Lib.count_one 10 l).symm

/-! ### Over strings -/
def mkB (l : List UInt8) : ByteArray := ⟨l.toArray⟩
theorem mkB_data (s : ByteArray) : mkB s.data.toList = s := by unfold mkB; simp
theorem mkB_list (l : List UInt8) : (mkB l).data.toList = l := by simp [mkB]
theorem mkB_size (l : List UInt8) : (mkB l).size = l.length := by rw [Lib.size_eq, mkB_list]
def rowsB (s : ByteArray) : List ByteArray := (rowsL s.data.toList).map mkB
theorem split_rows (s sep : ByteArray) (hsep : sep = ⟨#[10]⟩) : Lib.splitB sep 0 (Lib.countB s sep) s = (pcs s.data.toList).map mkB := by
  subst hsep
  have h := Lib.splitB_data ⟨#[10]⟩ 0 (Lib.countB s ⟨#[10]⟩) s
  have h2 : Lib.countB s ⟨#[10]⟩ = Lib.count s.data.toList [10] := rfl
  rw [show (ByteArray.mk #[10]).data.toList = [10] from rfl, h2, split_pcs] at h
  rw [← h, List.map_map]
  have : (mkB ∘ fun x : ByteArray => x.data.toList) = id := by funext x; exact mkB_data x
  rw [h2, this, List.map_id]
/-- Which row may stand at a place. -/
def mayB (row first : ByteArray) (y : Nat) : Bool := decide (y < 16) && decide (row.size ≠ 0) && decide (row.size ≤ 16) && decide (row.size = first.size) && (List.range row.size).all fun i => kdS row i != 0
theorem mayB_iff {row first : ByteArray} {y : Nat} : mayB row first y = true ↔ y < 16 ∧ row.size ≠ 0 ∧ row.size ≤ 16 ∧ row.size = first.size ∧ ∀ i, i < row.size → kdS row i ≠ 0 := by
  unfold mayB; simp [and_assoc]
def badRow (R : List ByteArray) : Option Nat := (List.range R.length).find? fun y => !mayB (R.getD y ByteArray.empty) (R.getD 0 ByteArray.empty) y
theorem badRow_some {R : List ByteArray} {y : Nat} {row first : ByteArray} (hr : R[y]? = some row) (hf : R[0]? = some first) (hm : mayB row first y = false) (h : ∀ i r, i < y → R[i]? = some r → mayB r first i = true) : badRow R = some y := by
  unfold badRow
  have hl := (List.getElem?_eq_some_iff.1 hr).1
  have h0 : R.getD 0 ByteArray.empty = first := by simp [hf]
  rw [List.find?_range_eq_some, h0]
  refine ⟨by simp [hr, hm], by simpa using hl, fun j hj => ?_⟩
  have hjl : j < R.length := by omega
  have := h j _ hj (List.getElem?_eq_getElem hjl)
  simp [this, hjl]
theorem badRow_none {R : List ByteArray} {first : ByteArray} (hf : R[0]? = some first) (h : ∀ i r, i < R.length → R[i]? = some r → mayB r first i = true) : badRow R = none := by
  unfold badRow
  have h0 : R.getD 0 ByteArray.empty = first := by simp [hf]
  rw [List.find?_eq_none, h0]
  intro j hj
  have hjl : j < R.length := by simpa using hj
  have := h j _ hjl (List.getElem?_eq_getElem hjl)
  simp [this, hjl]
def joinB (R : List ByteArray) : ByteArray := mkB (R.map (·.data.toList)).flatten
def Flr.zero : Flr := ⟨0, 0, ByteArray.empty⟩
/-- What a text's parsing answers. -/
noncomputable def parseP (s : ByteArray) : Flr × Nat × Nat :=
  match badRow (rowsB s) with
  | some y => (Flr.zero, y, 30)
  | none => if rightB ⟨((rowsB s).getD 0 ByteArray.empty).size, (rowsB s).length, joinB (rowsB s)⟩ = true then (⟨((rowsB s).getD 0 ByteArray.empty).size, (rowsB s).length, joinB (rowsB s)⟩, 0, 0) else (Flr.zero, (rowsB s).length, 30)
def PVal (r : Flr × Nat × Nat) : Value := .tuple #[r.1.val, .int .i64 (r.2.1 : Int), .int .i64 (r.2.2 : Int)]
theorem zero_right : rightB Flr.zero = false := rightB_f fun r => by have := r.w1; simp [Flr.zero] at this
theorem parseP_ok {s : ByteArray} (h : (parseP s).2.2 = 0) : rightB (parseP s).1 = true := by
  unfold parseP at h ⊢
  cases h1 : badRow (rowsB s) with
  | some y => simp [h1] at h
  | none =>
    rw [h1] at h
    simp only at h ⊢
    by_cases h2 : rightB ⟨((rowsB s).getD 0 ByteArray.empty).size, (rowsB s).length, joinB (rowsB s)⟩ = true
    · rw [if_pos h2]; exact h2
    · rw [if_neg h2] at h; simp at h
theorem parseP_no {s : ByteArray} (h : (parseP s).2.2 ≠ 0) : (parseP s).1 = Flr.zero := by
  unfold parseP at h ⊢
  cases h1 : badRow (rowsB s) with
  | some y => rfl
  | none =>
    rw [h1] at h
    simp only at h ⊢
    by_cases h2 : rightB ⟨((rowsB s).getD 0 ByteArray.empty).size, (rowsB s).length, joinB (rowsB s)⟩ = true
    · rw [if_pos h2] at h; simp at h
    · rw [if_neg h2]
end Go.Proofs.YtfpikgkbccgchaaGreatDoor

namespace Go.Proofs.YtfpikgkbccgchaaGreatDoor
set_option linter.unusedVariables false
set_option linter.unusedSimpArgs false
open Go.RowKit

def nearTo (s : ByteArray) (W H c j : Nat) : List Nat := ((besideP W H c).take j).filter fun x => kdS s x != 1
theorem nearTo_in {s : ByteArray} {W H c j b : Nat} (h : (besideP W H c)[j]? = some b) (hk : kdS s b ≠ 1) : nearTo s W H c (j + 1) = nearTo s W H c j ++ [b] := by
  unfold nearTo; rw [List.take_add_one, h, List.filter_append]; simp [hk]
theorem nearTo_out {s : ByteArray} {W H c j b : Nat} (h : (besideP W H c)[j]? = some b) (hk : kdS s b = 1) : nearTo s W H c (j + 1) = nearTo s W H c j := by
  unfold nearTo; rw [List.take_add_one, h, List.filter_append]; simp [hk]
theorem nearTo_len (s : ByteArray) (W H c j : Nat) : (nearTo s W H c j).length ≤ 4 := by
  refine Nat.le_trans (List.length_filter_le _ _) (Nat.le_trans (List.length_take_le' _ _) ?_)
  rw [← bsA_four]; exact bsA_len W H c 4
theorem kd_35 (c : Nat) (hk : kindB c ≠ 1) : c ≠ 35 := by rintro rfl; exact hk rfl
theorem kd_35' (c : Nat) (hk : kindB c = 1) : c = 35 := kd_wall hk
theorem besideP_len (W H c : Nat) : (besideP W H c).length ≤ 4 := by rw [← bsA_four]; exact bsA_len W H c 4

structure NIdx (f : Flr) (c : Int) (W H j : Nat) : Prop where
  W1 : 1 ≤ W
  W2 : W ≤ 16
  H1 : 1 ≤ H
  H2 : H ≤ 16
  fW : f.W = W
  fH : f.H = H
  s : f.s.size = W * H
  c : c = j
  jl : j < W * H
theorem isB_idx {f : Flr} {c k : Int} (h : isB f c k = true) : ∃ W H j : Nat, NIdx f c W H j := by
  obtain ⟨h1, h2, h3, h4⟩ := isB_iff.1 h
  refine ⟨f.W.toNat, f.H.toNat, c.toNat, ?_⟩
  have hW := Int.toNat_of_nonneg (show 0 ≤ f.W from by have := h4.w1; omega)
  have hH := Int.toNat_of_nonneg (show 0 ≤ f.H from by have := h4.h1; omega)
  have hs : f.s.size = f.W.toNat * f.H.toNat := by
    have := h4.len
    rw [← hW, ← hH] at this
    exact_mod_cast this
  exact ⟨by have := h4.w1; omega, by have := h4.w2; omega, by have := h4.h1; omega, by have := h4.h2; omega, hW.symm, hH.symm, hs, by omega, by rw [← hs]; omega⟩

set_option maxHeartbeats 1000000 in
set_option maxRecDepth 100000 in
theorem lanes_any (f : Flr) (hsz : f.s.size ≤ 9223372036854775807) (w : World) :
    Calls Tryz.prog 13 #[f.val] w fun e w' => ∃ v, e = .returned v ∧ NewS IK 3 w w' v (ints (lanesP f)) := by
  have HBX := Lib.hid (BxW.new f w)
  obtain ⟨N, hN⟩ : ∃ N, N = lanesP f := ⟨_, rfl⟩
  rw [← hN]
  unfold lanesP at hN
  cases hb : rightB f with
  | true =>
    rw [if_pos hb] at hN
    have HRT := Lib.hid (right_at f hsz true hb)
    have hs256 := (rightB_iff.1 hb).s256
    obtain ⟨X, Y, s⟩ := f
    simp only at hs256 hN
    obtain ⟨n, hn⟩ : ∃ n, n = s.size := ⟨_, rfl⟩
    have hnI : ((s.size : Nat) : Int) = (n : Int) := by omega
    have HS := Lib.hid hn
    rw [← hn] at hN hs256
    have HN := Lib.hid hN
    unfold Flr.val at HRT ⊢
    simp only at HRT ⊢
    clear hb hN hn hsz
    go_enter Tryz.func13, Tryz.ntmps13
    go_wp2_with fail
    refine (HRT.out _).mono ?_
    rintro e w3 ⟨rfl, kp1⟩
    have B3 := Lib.hid (HBX.out.no kp1)
    have hb2 : w3.cell? ⟨w.heap.size, 2, none⟩ = some (.string s) := B3.out.c2
    clear kp1
    go_wp2_with fail
    go_loopg [3, 11] (n + 1) (fun g2 v ii wx => ∃ (i m : Nat) (A : Option Addr) (q : Nat), g2 = n + 1 - i ∧ ii = .int .i64 i ∧ i ≤ n ∧ v = .slice A m q ∧ m = (lanesTo s i).length ∧ NewS IK 3 w3 wx v (ints (lanesTo s i)))
    case atStart => exact ⟨0, 0, none, 0, rfl, rfl, by omega, rfl, rfl, NewS.nil _ _ _⟩
    case round =>
      obtain ⟨i, m, A, q, hgi, rfl, hi, rfl, hm, ns⟩ := hrel
      have hm4 : m ≤ 256 := by rw [hm]; exact Nat.le_trans (lanesTo_len s i) (by omega)
      have HM := Lib.hid hm; have NS := Lib.hid ns
      have hb2 : wr.cell? ⟨w.heap.size, 2, none⟩ = some (.string s) := (B3.out.no NS.out.kp).c2
      clear hm ns
      by_cases hlt : i < n
      · have hltI : (i : Int) < (n : Int) := by omega
        have hwi : IntKind.i64.wrap ((i : Int) + 1) = (i : Int) + 1 := IntWalk.i64_in _ (by omega)
        have hxs : i < s.size := by have := HS.out; omega
        have hbt := bt_at s i
        obtain ⟨K, hK⟩ : ∃ K, K = kindB (bt s i) := ⟨_, rfl⟩
        have hkd := fun w => kind_any (bt s i) w
        rw [← hK] at hkd
        have HKD := Lib.hid hkd
        by_cases h2 : K = 2
        · have h2b : ((K : Int) == 2) = true := by simp [h2]
          have HL := Lib.hid (lanesTo_in (s := s) (k := i) (show kindB (bt s i) = 2 by rw [← hK, h2]))
          clear hkd hK h2 hlt
          go_wp2_with (first | (go_at_call 45; refine (HKD.out _).mono ?_; rintro e wz ⟨rfl, rfl⟩) | (at_builtin; refine wpl_snocI rfl (.tmp 20) (.tmp 22) rfl rfl rfl rfl NS.out HM.out (by omega) ?_; intro A2 q2 w4 n4 k4 _; have N4 := Lib.hid n4; clear n4 k4))
          go_roundg (n + 1 - (i + 1))
          case measure => omega
          case rel => exact ⟨i + 1, m + 1, A2, q2, rfl, by go_num, by omega, rfl, by rw [HL.out, List.length_append, ← HM.out]; rfl, by rw [HL.out]; exact N4.out⟩
        · have h2b : ((K : Int) == 2) = false := by simp; omega
          have HL := Lib.hid (lanesTo_out (s := s) (k := i) (show kindB (bt s i) ≠ 2 by rw [← hK]; exact h2))
          clear hkd hK h2 hlt
          go_wp2_with (go_at_call 45; refine (HKD.out _).mono ?_; rintro e wz ⟨rfl, rfl⟩)
          go_roundg (n + 1 - (i + 1))
          case measure => omega
          case rel => exact ⟨i + 1, m, A, q, rfl, by go_num, by omega, rfl, by rw [HL.out]; exact HM.out, by rw [HL.out]; exact NS.out⟩
      · obtain rfl : i = n := by omega
        have hd0 : ¬ (i : Int) < (i : Int) := by omega
        clear hlt
        go_wp2_with fail
        go_ret
        exact ⟨_, rfl, by rw [HN.out]; exact NS.out.from_ B3.out.kp⟩
  | false =>
    have HRT := Lib.hid (right_at f hsz false hb)
    have HN := Lib.hid (show N = [] by rw [hN, if_neg (by simp [hb])])
    unfold Flr.val at HRT ⊢
    clear hb hN
    go_enter Tryz.func13, Tryz.ntmps13
    go_wp2_with fail
    refine (HRT.out _).mono ?_
    rintro e w1 ⟨rfl, kp1⟩
    have B1 := Lib.hid (HBX.out.no kp1)
    clear kp1
    go_wp2_with fail
    go_ret
    exact ⟨_, rfl, by rw [HN.out]; exact ⟨Own.nil _ _ _, by simp [Value.ownBlock], B1.out.kp⟩⟩
end Go.Proofs.YtfpikgkbccgchaaGreatDoor

namespace Go.Proofs.YtfpikgkbccgchaaGreatDoor
set_option linter.unusedVariables false
set_option linter.unusedSimpArgs false
open Go.RowKit

def stepC (W H : Nat) (s : ByteArray) (on : List Nat) : List Nat := on ++ (on.flatMap (besideP W H)).filter fun j => decide (laneI s j)
def iterC (W H : Nat) (s : ByteArray) : Nat → List Nat → List Nat
  | 0, on => on
  | n + 1, on => iterC W H s n ((stepC W H s on).eraseDups)
def docksC (s : ByteArray) : List Nat := (List.range (docksP s s.size).length).map fun r => (dockAt s r).getD 0
def dockOkC (s : ByteArray) (ds : List Nat) : Bool := !ds.isEmpty && (List.range ds.length).all (fun r => match ds[r]? with
    | some i => decide (i < s.size) && kdS s i == 3 && bt s i == 48 + r
    | none => false) && (List.range s.size).all fun i => if kdS s i = 3 then ds[bt s i - 48]? == some i else true
def rightC (W H : Nat) (s : ByteArray) : Bool :=
  decide (1 ≤ W) && decide (W ≤ 16) && decide (1 ≤ H) && decide (H ≤ 16) && decide (s.size = W * H) && (List.range s.size).all (fun i => kdS s i != 0) && dockOkC s (docksC s) &&
  (match (lanesTo s s.size).head? with
    | some l => let on := iterC W H s s.size [l]; (lanesTo s s.size).all fun i => on.contains i
    | none => false) &&
  (List.range s.size).all fun i => if kdS s i = 3 then (besideP W H i).any (fun j => decide (laneI s j)) else true
theorem eraseDups_mem {l : List Nat} {x : Nat} : x ∈ l.eraseDups ↔ x ∈ l := by simp
theorem iterC_conn {W H l : Nat} {s : ByteArray} : ∀ (n : Nat) (on : List Nat), (∀ j ∈ on, Conn W H s l j) → ∀ j ∈ iterC W H s n on, Conn W H s l j := by
  intro n
  induction n with
  | zero => intro on h; exact h
  | succ n ih =>
    intro on h
    refine ih _ fun j hj => ?_
    rw [eraseDups_mem] at hj
    rcases List.mem_append.1 hj with hj | hj
    · exact h j hj
    · obtain ⟨h1, h2⟩ := List.mem_filter.1 hj
      obtain ⟨i, h3, h4⟩ := List.mem_flatMap.1 h1
      exact .step (h i h3) h4 (by simpa using h2)
theorem dockOkC_ok {s : ByteArray} {ds : List Nat} (h : dockOkC s ds = true) : DocksL s ds := by
  unfold dockOkC at h
  simp only [Bool.and_eq_true, List.all_eq_true, List.mem_range] at h
  obtain ⟨⟨h1, h2⟩, h3⟩ := h
  refine ⟨by simpa using h1, fun r i hr => ?_, fun i hi hk => ?_⟩
  · have := h2 r (List.getElem?_eq_some_iff.1 hr).1
    rw [hr] at this
    simp at this
    exact ⟨this.1.1, this.1.2, this.2⟩
  · have := h3 i hi
    rw [if_pos hk] at this
    simpa using this
theorem rightC_ok {W H : Nat} {s : ByteArray} (h : rightC W H s = true) : rightB ⟨W, H, s⟩ = true := by
  unfold rightC at h
  simp only [Bool.and_eq_true, List.all_eq_true, List.mem_range, decide_eq_true_eq] at h
  obtain ⟨⟨⟨⟨⟨⟨⟨⟨h1, h2⟩, h3⟩, h4⟩, h5⟩, h6⟩, h7⟩, h8⟩, h9⟩ := h
  refine rightB_t ⟨by simp; omega, by simp; omega, by simp; omega, by simp; omega, by simp [h5], fun i hi => by simpa using h6 i hi, ⟨_, dockOkC_ok h7⟩, ?_, fun i hi hk => ?_⟩
  · cases hl : (lanesTo s s.size).head? with
    | none => rw [hl] at h8; simp at h8
    | some l =>
      rw [hl] at h8
      simp only [List.all_eq_true, List.contains_iff_mem] at h8
      have hlm := lanesTo_mem.1 (List.mem_of_head? hl)
      refine (joined_one (by simpa using h1) (by simpa using h5) (l := l) hlm).2 fun j hj => ?_
      have := h8 j (lanesTo_mem.2 hj)
      simpa using iterC_conn s.size [l] (fun j hj => by rw [List.mem_singleton.1 hj]; exact .refl) j this
  · have := h9 i hi
    rw [if_pos hk] at this
    simp only [List.any_eq_true, decide_eq_true_eq] at this
    simpa using this
theorem parseP_of {s : ByteArray} {R : List ByteArray} {W H : Nat} {S : ByteArray} (hR : rowsB s = R) (hb : badRow R = none) (hW : (R.getD 0 ByteArray.empty).size = W) (hH : R.length = H) (hS : joinB R = S) (hr : rightC W H S = true) :
    parseP s = (⟨W, H, S⟩, 0, 0) := by
  unfold parseP
  rw [hR, hb]
  simp only
  rw [hW, hH, hS, if_pos (rightC_ok hr)]
theorem parseP_not {s : ByteArray} {R : List ByteArray} {W H : Nat} {S : ByteArray} (hR : rowsB s = R) (hb : badRow R = none) (hW : (R.getD 0 ByteArray.empty).size = W) (hH : R.length = H) (hS : joinB R = S) (hr : rightB ⟨W, H, S⟩ = false) :
    parseP s = (Flr.zero, H, 30) := by
  unfold parseP
  rw [hR, hb]
  simp only
  rw [hW, hH, hS, if_neg (by rw [hr]; simp)]
theorem nearP_at {f : Flr} {j W H : Nat} (hb : rightB f = true) (hj : j < f.s.size) (hW : f.W = W) (hH : f.H = H) (hk : kdS f.s j = 2 ∨ kdS f.s j = 3) : nearP f j = (besideP W H j).filter fun x => kdS f.s x != 1 := by
  unfold nearP
  rw [hW, hH, if_pos]
  · simp
  · rcases hk with h | h
    · exact .inl (isB_iff.2 ⟨by omega, by omega, by simp [h], rightB_iff.1 hb⟩)
    · exact .inr (isB_iff.2 ⟨by omega, by omega, by simp [h], rightB_iff.1 hb⟩)
theorem right_kdP {f : Flr} (r : RightP f) {i : Nat} (hi : i < f.s.size) : kdS f.s i = 1 ∨ kdS f.s i = 2 ∨ kdS f.s i = 3 := by
  have h1 := r.kinds i hi
  have h2 : kdS f.s i ≤ 3 := kindB_le _
  omega
end Go.Proofs.YtfpikgkbccgchaaGreatDoor

namespace Go.Proofs.YtfpikgkbccgchaaGreatDoor
set_option linter.unusedVariables false
set_option linter.unusedSimpArgs false
open Go.Shelf Go.RowKit Go.Lib
variable {P : Program} {ρ : Ren}

set_option maxHeartbeats 1000000 in
theorem split_one (L : Lays.n146 P ρ) (hi9 : (P.info? (ρ.t 9)).map (fun i => (i.zero, i.size, i.bytes)) = some (some (.string ByteArray.empty), 1, 16)) (s : ByteArray) (c : UInt8) (w : World)
    (hs : s.size < 4294967281) :
    Calls P (ρ.f 146) #[.string s, .string ⟨#[c]⟩] w fun e w' =>
      e = .returned (.slice (some ⟨w.heap.size, 0, none⟩) (Lib.countB s ⟨#[c]⟩ + 1) (Lib.countB s ⟨#[c]⟩ + 1)) ∧ w' = w.alloc (.cells ((Lib.splitB ⟨#[c]⟩ 0 (Lib.countB s ⟨#[c]⟩) s).map Value.string).toArray (ρ.t 9)) := by
  have h1 : 1 ≤ (ByteArray.mk #[c]).size := Nat.le_refl _
  have hle := Lib.countB_le ⟨#[c]⟩ h1 s.size s (Nat.le_refl _)
  have hlen := Lib.splitB_all ⟨#[c]⟩ h1 0 _ s rfl
  have c1 := Any.strings_genSplit_core (ρ := ρ) { L with } hi9 s ⟨#[c]⟩ 0 (-1) (Lib.countB s ⟨#[c]⟩ + 1) w hs h1 (Nat.zero_le _)
    (fun x cs hx => (Any.strings_Index_one { L with } x c _).mono fun e w' ⟨he, hw⟩ => ⟨by rw [he]; show _ = Ending.returned (Value.int .i64 (Lib.index x.data.toList [c])); rw [Lib.index_one], hw⟩)
    ((Any.strings_Count_one { L with } s c w).mono fun e w' ⟨he, hw⟩ => ⟨by
      rw [he]
      show _ = Ending.returned (Value.int .i64 ((Lib.count s.data.toList [c] : Nat) : Int))
      rw [Lib.count_one]; rfl, hw⟩)
    (by decide) (by decide) (by rw [if_pos (by decide)]; omega)
  rw [Nat.add_sub_cancel, hlen] at c1
  have e2 : Lib.cellsOf (Lib.splitB ⟨#[c]⟩ 0 (Lib.countB s ⟨#[c]⟩) s) (Lib.countB s ⟨#[c]⟩ + 1) = ((Lib.splitB ⟨#[c]⟩ 0 (Lib.countB s ⟨#[c]⟩) s).map Value.string).toArray := by rw [← hlen]; exact Lib.cellsOf_full _
  rw [e2] at c1
  have t3 := L.t3; have t9 := L.t9; have t31 := L.t31
  have a3 := L.a3; have a9 := L.a9; have a31 := L.a31
  have z3 := L.z3; have v3 := L.v3; have z9 := L.z9; have v9 := L.v9; have z31 := L.z31; have v31 := L.v31
  have e221 : ∀ args w, (callFunc (ρ.f 221) args).run P w = .ok (.enter (ρ.f 221) args) w := enters_of L.f221 (by kernel_rfl) rfl
  go_enter L.f146, Body.n146_ntmps ρ
  go_wp2_with (go_at_fn (ρ.f 221); refine c1.mono ?_; rintro e w' ⟨rfl, hw⟩; rw [hw])
  go_ret
  exact ⟨rfl, rfl⟩
end Go.Proofs.YtfpikgkbccgchaaGreatDoor

namespace Go.Proofs
open Go.Shelf
def Tryz.lays156_ren : Go.Shelf.Ren := ⟨fun | 156 => 73 | 165 => 116 | 166 => 117 | 169 => 118 | 240 => 142 | 241 => 143 | 276 => 156 | 277 => 157 | n => n, fun | 31 => 101 | 9 => 9 | 3 => 3 | 4 => 4 | 0 => 0 | 20 => 20 | 72 => 175 | 76 => 179 | 70 => 173 | 37 => 41 | 75 => 178 | 127 => 208 | 164 => 219 | 5 => 5 | 80 => 181 | n => n, fun | n => n⟩
theorem Tryz.lays156 : Go.Proofs.Lays.n156 Tryz.prog Tryz.lays156_ren := {
  mixed := by kernel_rfl
  f156 := Tryz.func73.trans (congrArg some (by kernel_rfl))
  f165 := Tryz.func116.trans (congrArg some (by kernel_rfl))
  f166 := Tryz.func117.trans (congrArg some (by kernel_rfl))
  f169 := Tryz.func118.trans (congrArg some (by kernel_rfl))
  f240 := Tryz.func142.trans (congrArg some (by kernel_rfl))
  f241 := Tryz.func143.trans (congrArg some (by kernel_rfl))
  f276 := Tryz.func156.trans (congrArg some (by kernel_rfl))
  f277 := Tryz.func157.trans (congrArg some (by kernel_rfl))
  t0 := Tryz.underlying0
  a0 := Tryz.isAgg0
  z0 := Tryz.sizeOf0
  v0 := Tryz.zeroValue0
  t3 := Tryz.underlying3
  a3 := Tryz.isAgg3
  z3 := Tryz.sizeOf3
  v3 := Tryz.zeroValue3
  t4 := Tryz.underlying4
  a4 := Tryz.isAgg4
  z4 := Tryz.sizeOf4
  v4 := Tryz.zeroValue4
  t9 := Tryz.underlying9
  a9 := Tryz.isAgg9
  z9 := Tryz.sizeOf9
  v9 := Tryz.zeroValue9
  t20 := Tryz.underlying20
  a20 := Tryz.isAgg20
  z20 := Tryz.sizeOf20
  v20 := Tryz.zeroValue20
  t31 := Tryz.underlying101
  a31 := Tryz.isAgg101
  z31 := Tryz.sizeOf101
  v31 := Tryz.zeroValue101
  t37 := Tryz.underlying41
  a37 := Tryz.isAgg41
  z37 := Tryz.sizeOf41
  v37 := Tryz.zeroValue41
  t70 := Tryz.underlying173
  a70 := Tryz.isAgg173
  z70 := Tryz.sizeOf173
  v70 := Tryz.zeroValue173
  t72 := Tryz.underlying175
  a72 := Tryz.isAgg175
  z72 := Tryz.sizeOf175
  v72 := Tryz.zeroValue175
  t75 := Tryz.underlying178
  a75 := Tryz.isAgg178
  z75 := Tryz.sizeOf178
  v75 := Tryz.zeroValue178
  t76 := Tryz.underlying179
  a76 := Tryz.isAgg179
  z76 := Tryz.sizeOf179
  v76 := Tryz.zeroValue179
  t127 := Tryz.underlying208
  a127 := Tryz.isAgg208
  z127 := Tryz.sizeOf208
  v127 := Tryz.zeroValue208
  t164 := Tryz.underlying219
  a164 := Tryz.isAgg219
  z164 := Tryz.sizeOf219
  v164 := Tryz.zeroValue219 }
theorem Tryz.Builder_Extra_156 : Builder.Extra Tryz.prog Tryz.lays156_ren := {
  sizeBuilder := by kernel_rfl
  liesBuilder := by kernel_rfl
  t5 := Tryz.underlying5
  a5 := Tryz.isAgg5
  z5 := Tryz.sizeOf5
  v5 := Tryz.zeroValue5
  infoByte := by kernel_rfl
  cellsByte := by kernel_rfl
  sizeByte := by kernel_rfl
  neB5 := by decide }
open Go.RowKit in
theorem Tryz.strings_Join (bk o c : Nat) (xs : List ByteArray) (sep : ByteArray) (w : World) (hcells : ∀ (j : Nat) x, xs[j]? = some x → w.cell? ⟨bk, o + j, none⟩ = some (.string x)) (hbk : bk < w.heap.size) (hN : xs.length ≤ 140737488355328) (hcap : xs.length ≤ c) (hlen : (Lib.join (xs.map (·.data.toList)) sep.data.toList).length ≤ 140737488355328) :
    Calls Tryz.prog 73 #[.slice (some ⟨bk, o, none⟩) xs.length c, .string sep] w fun e w' => e = .returned (.string ⟨(Lib.join (xs.map (·.data.toList)) sep.data.toList).toArray⟩) ∧ Below w.heap.size w w' := Any.strings_Join Tryz.lays156 Tryz.Builder_Extra_156 bk o c xs sep w hcells hbk hN hcap hlen
def Tryz.lays146_ren : Go.Shelf.Ren := ⟨fun | 146 => 71 | 221 => 115 | 268 => 139 | 138 => 140 | 143 => 141 | 195 => 152 | 197 => 153 | 218 => 154 | 219 => 155 | 260 => 160 | 217 => 161 | 225 => 162 | 224 => 163 | 267 => 164 | 266 => 165 | 314 => 166 | n => n, fun | 9 => 9 | 31 => 101 | 3 => 3 | 4 => 4 | 0 => 0 | 105 => 216 | 21 => 21 | 5 => 5 | 46 => 201 | 119 => 225 | 139 => 228 | 138 => 227 | 146 => 230 | 51 => 229 | n => n, fun | 1 => 0 | 3 => 1 | 4 => 2 | n => n⟩
theorem Tryz.lays146 : Go.Proofs.Lays.n146 Tryz.prog Tryz.lays146_ren := {
  mixed := by kernel_rfl
  f138 := Tryz.func140.trans (congrArg some (by kernel_rfl))
  f143 := Tryz.func141.trans (congrArg some (by kernel_rfl))
  f146 := Tryz.func71.trans (congrArg some (by kernel_rfl))
  f195 := Tryz.func152.trans (congrArg some (by kernel_rfl))
  f197 := Tryz.func153.trans (congrArg some (by kernel_rfl))
  f217 := Tryz.func161.trans (congrArg some (by kernel_rfl))
  f218 := Tryz.func154.trans (congrArg some (by kernel_rfl))
  f219 := Tryz.func155.trans (congrArg some (by kernel_rfl))
  f221 := Tryz.func115.trans (congrArg some (by kernel_rfl))
  f224 := Tryz.func163.trans (congrArg some (by kernel_rfl))
  f225 := Tryz.func162.trans (congrArg some (by kernel_rfl))
  f260 := Tryz.func160.trans (congrArg some (by kernel_rfl))
  f266 := Tryz.func165.trans (congrArg some (by kernel_rfl))
  f267 := Tryz.func164.trans (congrArg some (by kernel_rfl))
  f268 := Tryz.func139.trans (congrArg some (by kernel_rfl))
  f314 := Tryz.func166.trans (congrArg some (by kernel_rfl))
  t0 := Tryz.underlying0
  a0 := Tryz.isAgg0
  z0 := Tryz.sizeOf0
  v0 := Tryz.zeroValue0
  t3 := Tryz.underlying3
  a3 := Tryz.isAgg3
  z3 := Tryz.sizeOf3
  v3 := Tryz.zeroValue3
  t4 := Tryz.underlying4
  a4 := Tryz.isAgg4
  z4 := Tryz.sizeOf4
  v4 := Tryz.zeroValue4
  t5 := Tryz.underlying5
  a5 := Tryz.isAgg5
  z5 := Tryz.sizeOf5
  v5 := Tryz.zeroValue5
  t9 := Tryz.underlying9
  a9 := Tryz.isAgg9
  z9 := Tryz.sizeOf9
  v9 := Tryz.zeroValue9
  t21 := Tryz.underlying21
  a21 := Tryz.isAgg21
  z21 := Tryz.sizeOf21
  v21 := Tryz.zeroValue21
  t31 := Tryz.underlying101
  a31 := Tryz.isAgg101
  z31 := Tryz.sizeOf101
  v31 := Tryz.zeroValue101
  t46 := Tryz.underlying201
  a46 := Tryz.isAgg201
  z46 := Tryz.sizeOf201
  v46 := Tryz.zeroValue201
  t51 := Tryz.underlying229
  a51 := Tryz.isAgg229
  z51 := Tryz.sizeOf229
  v51 := Tryz.zeroValue229
  t105 := Tryz.underlying216
  a105 := Tryz.isAgg216
  z105 := Tryz.sizeOf216
  v105 := Tryz.zeroValue216
  t119 := Tryz.underlying225
  a119 := Tryz.isAgg225
  z119 := Tryz.sizeOf225
  t138 := Tryz.underlying227
  a138 := Tryz.isAgg227
  z138 := Tryz.sizeOf227
  v138 := Tryz.zeroValue227
  t139 := Tryz.underlying228
  a139 := Tryz.isAgg228
  z139 := Tryz.sizeOf228
  v139 := Tryz.zeroValue228
  t146 := Tryz.underlying230
  a146 := Tryz.isAgg230
  z146 := Tryz.sizeOf230
  v146 := Tryz.zeroValue230
  g1 := by kernel_rfl
  g3 := by kernel_rfl
  g4 := by kernel_rfl }
end Go.Proofs

namespace Go.Proofs.YtfpikgkbccgchaaGreatDoor
set_option linter.unusedVariables false
set_option linter.unusedSimpArgs false
open Go.RowKit

/-- A string's cell. -/
def SRK : Kd ByteArray := { sz := 1, enc := fun x => [.string x], len := fun _ => rfl, one := by intro a v hv; simp at hv; subst hv; rfl, pos := by decide }
def rowsV (R : List ByteArray) : Array Value := (R.map Value.string).toArray
theorem splitS_any (s : ByteArray) (hs : s.size ≤ 4000000000) (w : World) :
    Calls Tryz.prog 71 #[.string s, .string ⟨#[10]⟩] w fun e w' =>
      e = .returned (.slice (some ⟨w.heap.size, 0, none⟩) (pcs s.data.toList).length (pcs s.data.toList).length) ∧ w' = w.alloc (.cells (rowsV ((pcs s.data.toList).map mkB)) 9) := by
  have h := split_one Tryz.lays146 (by kernel_rfl) s 10 w (by omega)
  have hl := Lib.splitB_all ⟨#[10]⟩ (Nat.le_refl _) 0 _ s rfl
  rw [split_rows s _ rfl] at h hl
  rw [List.length_map] at hl
  rw [← hl] at h
  exact h
theorem pcs_lenle (l : List UInt8) : (pcs l).length ≤ l.length + 1 := by
  induction l with
  | nil => simp [pcs]
  | cons c l ih =>
    rw [pcs]
    split
    · simp; exact ih
    · split
      · simp
      · rename_i h; rw [h] at ih; simp at ih ⊢; omega

set_option maxRecDepth 100000 in
theorem may_any (row first : ByteArray) (y : Nat) (hr : row.size ≤ 9223372036854775807) (hf : first.size ≤ 9223372036854775807) (hy : y ≤ 1000000000) (w : World) :
    Calls Tryz.prog 72 #[.string row, .string first, .int .i64 (y : Int)] w fun e w' => e = .returned (.bool (mayB row first y)) ∧ w' = w := by
  obtain ⟨R, hR⟩ : ∃ R, R = mayB row first y := ⟨_, rfl⟩
  rw [← hR]
  have HR := Lib.hid hR
  clear hR
  obtain ⟨n, hn⟩ : ∃ n, n = row.size := ⟨_, rfl⟩
  have hnI : ((row.size : Nat) : Int) = (n : Int) := by omega
  have HN := Lib.hid hn
  obtain ⟨m, hm⟩ : ∃ m, m = first.size := ⟨_, rfl⟩
  have hmI : ((first.size : Nat) : Int) = (m : Int) := by omega
  have HM := Lib.hid hm
  have hno : ¬ (y < 16 ∧ n ≠ 0 ∧ n ≤ 16 ∧ n = m) → R = false := fun h => by
    rw [HR.out]
    cases e : mayB row first y with
    | false => rfl
    | true => obtain ⟨h1, h2, h3, h4, _⟩ := mayB_iff.1 e; exact absurd ⟨h1, by rw [hn]; exact h2, by rw [hn]; exact h3, by rw [hn, hm]; exact h4⟩ h
  have HNO := Lib.hid hno
  rw [← hn] at hr
  rw [← hm] at hf
  clear hno hn hm
  have hem : row.toList.isEmpty = decide (n = 0) := by
    rw [HN.out, Lib.toList_data, Lib.size_eq]
    cases row.data.toList <;> simp
  by_cases h1 : 16 ≤ y
  · have h1I : (16 : Int) ≤ (y : Int) := by omega
    have HE := Lib.hid (HNO.out (by omega))
    clear hem h1
    go_enter Tryz.func72, Tryz.ntmps72
    go_wp2_with fail
    go_ret
    exact ⟨by rw [HE.out]; rfl, rfl⟩
  have h1I : ¬ (16 : Int) ≤ (y : Int) := by omega
  by_cases h2 : n = 0
  · have HE := Lib.hid (HNO.out (by omega))
    have hem2 : row.toList.isEmpty = true := by rw [hem]; simp [h2]
    have hem3 : row.toList = [] := by simpa using hem2
    have hem4 : row.data.toList = [] := by rw [← Lib.toList_data]; exact hem3
    clear hem h1 h2
    go_enter Tryz.func72, Tryz.ntmps72
    go_wp2_with fail
    go_ret
    exact ⟨by rw [HE.out]; rfl, rfl⟩
  have hem2 : row.toList.isEmpty = false := by rw [hem]; simp [h2]
  by_cases h3 : 16 < n
  · have HE := Lib.hid (HNO.out (by omega))
    have h3I : (16 : Int) < (n : Int) := by omega
    clear hem h1 h2 h3
    go_enter Tryz.func72, Tryz.ntmps72
    go_wp2_with fail
    go_ret
    exact ⟨by rw [HE.out]; rfl, rfl⟩
  have h3I : ¬ (16 : Int) < (n : Int) := by omega
  by_cases h4 : n = m
  · have h4b : ((n : Int) != (m : Int)) = false := by simp; omega
    have h4c : (n != m) = false := by simp [h4]
    have HG := Lib.hid (show y < 16 ∧ n ≠ 0 ∧ n ≤ 16 ∧ n = m by omega)
    have hn16 : n ≤ 16 := by omega
    clear hem h1 h2 h3 h4
    go_enter Tryz.func72, Tryz.ntmps72
    go_wp2_with fail
    go_loopg [28] (n + 1) (fun g2 kk wr => ∃ k : Nat, g2 = n + 1 - k ∧ kk = .int .i64 k ∧ k ≤ n ∧ (∀ i, i < k → kdS row i ≠ 0) ∧ wr = w)
    case atStart => exact ⟨0, rfl, rfl, by omega, fun i hi => by omega, rfl⟩
    case round =>
      obtain ⟨k, hgk, rfl, hk, hz, rfl⟩ := hrel
      have HZ := Lib.hid hz
      clear hz
      by_cases hlt : k < n
      · have hltI : (k : Int) < (n : Int) := by omega
        have hwk : IntKind.i64.wrap ((k : Int) + 1) = (k : Int) + 1 := IntWalk.i64_in _ (by omega)
        have hks : k < row.size := by have := HN.out; omega
        have hbt := bt_at row k
        obtain ⟨K, hK⟩ : ∃ K, K = kindB (bt row k) := ⟨_, rfl⟩
        have hkd := fun w => kind_any (bt row k) w
        rw [← hK] at hkd
        have HK := Lib.hid (show K = kdS row k from hK)
        have HKD := Lib.hid hkd
        clear hK hkd
        by_cases h0 : K = 0
        · have h0b : ((K : Int) == 0) = true := by simp [h0]
          have HE := Lib.hid (show R = false by
            rw [HR.out]
            cases e : mayB row first y with
            | false => rfl
            | true => exact absurd (by rw [← HK.out, h0]) ((mayB_iff.1 e).2.2.2.2 k hks))
          clear h0 hlt hks
          go_wp2_with (go_at_call 45; refine (HKD.out _).mono ?_; rintro e wz ⟨rfl, rfl⟩)
          go_ret
          exact ⟨by rw [HE.out]; rfl, rfl⟩
        · have h0b : ((K : Int) == 0) = false := by simp; omega
          have HZ2 := Lib.hid (show ∀ i, i < k + 1 → kdS row i ≠ 0 by
            intro i hi
            rcases Nat.lt_or_ge i k with h | h
            · exact HZ.out i h
            · obtain rfl : i = k := by omega
              rw [← HK.out]; exact h0)
          clear h0 hlt hks
          go_wp2_with (go_at_call 45; refine (HKD.out _).mono ?_; rintro e wz ⟨rfl, hwz⟩; rw [hwz]; clear hwz)
          go_roundg (n + 1 - (k + 1))
          case measure => omega
          case rel => exact ⟨k + 1, rfl, by go_num, by omega, HZ2.out, rfl⟩
      · obtain rfl : k = n := by omega
        have hd0 : ¬ (k : Int) < (k : Int) := by omega
        have HE := Lib.hid (show R = true by
          rw [HR.out]
          have h1 := HG.out; have h2 := HN.out; have h3 := HM.out
          exact mayB_iff.2 ⟨h1.1, by omega, by omega, by omega, fun i hi => HZ.out i (by omega)⟩)
        clear hlt
        go_wp2_with fail
        go_ret
        exact ⟨by rw [HE.out]; rfl, rfl⟩
  · have HE := Lib.hid (HNO.out (by omega))
    have h4b : ((n : Int) != (m : Int)) = true := by simp; omega
    have h4c : (n != m) = true := by simp [h4]
    clear hem h1 h2 h3 h4
    go_enter Tryz.func72, Tryz.ntmps72
    go_wp2_with fail
    go_ret
    exact ⟨by rw [HE.out]; rfl, rfl⟩
end Go.Proofs.YtfpikgkbccgchaaGreatDoor

namespace Go.Proofs.YtfpikgkbccgchaaGreatDoor
set_option linter.unusedVariables false
set_option linter.unusedSimpArgs false
open Go.RowKit

theorem elSR : ElT Tryz.prog 101 9 SRK 16 := ElT.of (z := .string ByteArray.empty) (by kernel_rfl) (by kernel_rfl) rfl
theorem pcs_flat (l : List UInt8) : (pcs l).flatten.length ≤ l.length := by
  induction l with
  | nil => simp [pcs]
  | cons c l ih =>
    rw [pcs]
    split
    · simp; simp at ih; omega
    · split
      · simp
      · rename_i h; rw [h] at ih; simp at ih ⊢; omega
theorem flat_mem {L : List (List UInt8)} {p : List UInt8} (h : p ∈ L) : p.length ≤ L.flatten.length := by
  induction L with
  | nil => simp at h
  | cons a L ih =>
    rw [List.flatten_cons, List.length_append]
    rcases List.mem_cons.1 h with rfl | h
    · omega
    · have := ih h; omega
theorem join_nil (xs : List (List UInt8)) : Lib.join xs [] = xs.flatten := by
  unfold Lib.join
  induction xs with
  | nil => rfl
  | cons a xs ih =>
    rcases xs with _ | ⟨b, xs⟩
    · simp [List.intercalate]
    · rw [List.flatten_cons, ← ih]; simp [List.intercalate]
/-- The rows of a text: what the program reads, the first m of n1 pieces. -/
structure PrR (s : ByteArray) (R X : List ByteArray) (m n1 : Nat) : Prop where
  rows : X = rowsB s
  pre : ∃ Y, R = X ++ Y
  lm : m = X.length
  ln : n1 = R.length
  le : m ≤ n1
  n1le : n1 ≤ s.size + 1
  sz : ∀ (i : Nat) r, X[i]? = some r → r.size ≤ s.size
  flat : (X.map (·.data.toList)).flatten.length ≤ s.size
theorem prR (s : ByteArray) : ∃ L cur, pcs s.data.toList = L ++ [cur] ∧ ∃ X m, PrR s ((pcs s.data.toList).map mkB) X m (L.length + 1) ∧ m = if cur = [] then L.length else L.length + 1 := by
  obtain ⟨L, cur, h⟩ : ∃ L cur, pcs s.data.toList = L ++ [cur] := by
    exact ⟨_, _, (List.dropLast_concat_getLast (pcs_ne _)).symm⟩
  have hr := rowsL_of h
  have hf := pcs_flat s.data.toList
  have hn := pcs_lenle s.data.toList
  rw [← Lib.size_eq] at hf hn
  rw [h] at hf hn
  have key : ∀ (Z W2 : List (List UInt8)), L ++ [cur] = Z ++ W2 → rowsL s.data.toList = Z → PrR s ((L ++ [cur]).map mkB) (Z.map mkB) Z.length (L.length + 1) := by
    intro Z W2 h1 h2
    have hzf : Z.flatten.length ≤ s.size := by rw [h1] at hf; simp only [List.flatten_append, List.length_append] at hf; omega
    have hlen : L.length + 1 = Z.length + W2.length := by have := congrArg List.length h1; simpa using this
    refine ⟨by unfold rowsB; rw [h2], ⟨W2.map mkB, by rw [h1, List.map_append]⟩, by simp, by simp, by omega, by simp at hn; omega, fun i r hi => ?_, ?_⟩
    · rw [List.getElem?_map] at hi
      cases hz : Z[i]? with
      | none => rw [hz] at hi; simp at hi
      | some p =>
        rw [hz] at hi; simp at hi; subst hi
        rw [mkB_size]
        exact Nat.le_trans (flat_mem (List.mem_of_getElem? hz)) hzf
    · rw [List.map_map]
      have : ((fun x : ByteArray => x.data.toList) ∘ mkB) = id := by funext x; exact mkB_list x
      rw [this, List.map_id]; exact hzf
  refine ⟨L, cur, h, ?_⟩
  rw [h]
  by_cases hc : cur = []
  · rw [if_pos hc] at hr
    exact ⟨_, _, key L [cur] rfl hr, by rw [if_pos hc]⟩
  · rw [if_neg hc] at hr
    exact ⟨_, _, key (L ++ [cur]) [] (by simp) hr, by rw [if_neg hc]; simp⟩
theorem box_set {w : World} {b i : Nat} {cs : Array Value} {t : TypeId} (h : w.heap[b]? = some (.cells cs t (0, 0))) (hi : i < cs.size) (v : Value) : (w.setCell ⟨b, i, none⟩ v).cell? ⟨b, i, none⟩ = some v := by
  rw [blk_cell (blk_set h i v)]; simp [hi]
def ParseR (s : ByteArray) (w : World) (e : Ending) (w' : World) : Prop := e = .returned (PVal (parseP s)) ∧ Kp No w w'

set_option maxHeartbeats 2000000 in
set_option maxRecDepth 100000 in
theorem parse_any (s : ByteArray) (hs : s.size ≤ 1000000) (w : World) : Calls Tryz.prog 30 #[.string s] w (ParseR s w) := by
  unfold ParseR
  obtain ⟨V, hV⟩ : ∃ V, V = PVal (parseP s) := ⟨_, rfl⟩
  rw [← hV]
  have HV := Lib.hid hV
  clear hV
  obtain ⟨L, cur, hpc, X, m, pr, hm⟩ := prR s
  have SP := Lib.hid (splitS_any s (by omega))
  rw [hpc, List.length_append, List.length_singleton] at SP
  rw [hpc] at pr
  obtain ⟨R, hR⟩ : ∃ R, R = (L ++ [cur]).map mkB := ⟨_, rfl⟩
  rw [← hR] at SP pr
  have hRl : R[L.length]? = some (mkB cur) := by rw [hR]; simp
  obtain ⟨n1, hn1⟩ : ∃ n1, n1 = L.length + 1 := ⟨_, rfl⟩
  obtain ⟨n0, hn0⟩ : ∃ n0, n0 = L.length := ⟨_, rfl⟩
  rw [← hn1] at SP pr
  rw [← hn0] at hm hRl
  have h01 : n1 = n0 + 1 := by omega
  rw [← h01] at hm
  have hn1s : n1 ≤ 1000001 := by have := pr.n1le; omega
  have PR := Lib.hid pr
  have hle := pr.le
  obtain ⟨bF, hbF⟩ : ∃ bF, bF = w.heap.size := ⟨_, rfl⟩
  obtain ⟨br, hbr⟩ : ∃ br, br = w.heap.size + 1 := ⟨_, rfl⟩
  obtain ⟨w1, hw1⟩ : ∃ w1, w1 = w.alloc (.cells #[.int .i64 0, .int .i64 0, .string ⟨#[]⟩] 23) := ⟨_, rfl⟩
  obtain ⟨w2, hw2⟩ : ∃ w2, w2 = w1.alloc (.cells (rowsV R) 9) := ⟨_, rfl⟩
  have K2 := Lib.hid (show Kp No w w2 by rw [hw2, hw1]; exact ((Kp.refl _ _).alloc _).alloc _)
  have BF := Lib.hid (show w2.heap[bF]? = some (.cells #[.int .i64 0, .int .i64 0, .string ⟨#[]⟩] 23 (0, 0)) by rw [hw2, hw1, hbF]; exact blk_alloc (blk_new w _) _)
  have BR := Lib.hid (show w2.heap[br]? = some (.cells (rowsV R) 9 (0, 0)) by
    rw [hw2]
    have := blk_new w1 (.cells (rowsV R) 9)
    rw [hw1] at this ⊢
    rw [hbr]; simpa using this)
  have HLT := Lib.hid (show w.heap.size ≤ bF ∧ bF < br by omega)
  have hcR : ∀ (i : Nat) r, R[i]? = some r → w2.cell? ⟨br, i, none⟩ = some (.string r) := fun i r h => (blk_cell BR.out i).trans (by simp [rowsV, h])
  have HCR := Lib.hid hcR
  have HCX := Lib.hid (show ∀ (i : Nat) r, X[i]? = some r → w2.cell? ⟨br, i, none⟩ = some (.string r) from fun i r h => hcR i r (by
    obtain ⟨Y, hY⟩ := PR.out.pre
    rw [hY, List.getElem?_append_left (List.getElem?_eq_some_iff.1 h).1]; exact h))
  have hlast := hcR n0 _ hRl
  have hsub : IntKind.i64.wrap ((n1 : Int) - 1) = (n0 : Int) := by rw [IntWalk.i64_in _ (by omega)]; omega
  have hsub2 : (n1 : Int) - 1 = (n0 : Int) := by omega
  have hn01 : (n0 : Int) < (n1 : Int) := by omega
  have HC1 := Lib.hid (show w1.heap.size = br by rw [hw1, hbr]; simp)
  have hsl := fun w => run_slice_hi elSR br 0 n1 n1 n0 (by omega) (n0 : Int) rfl w
  have SPw := SP.out w1
  rw [HC1.out, ← hw2] at SPw
  have HSPw := Lib.hid SPw
  have hmn : m ≤ 1000001 := by omega
  have HW1 := Lib.hid hw1
  obtain ⟨em, hem⟩ : ∃ em, (mkB cur).toList.isEmpty = em := ⟨_, rfl⟩
  have HMN := Lib.hid (show m = if em = true then n0 else n1 by
    rw [hm, ← hem, Lib.toList_data, mkB_list]
    cases cur <;> simp)
  subst hbF
  clear hcR hRl hR hn1 hn0 hpc pr SP SPw hm hbr hw1 hw2 h01
  go_enter Tryz.func30, Tryz.ntmps30
  go_upto_if 17 with (go_at_call 71; go_loud (rw [← HW1.out]; refine HSPw.out.mono ?_; rintro e wz ⟨rfl, hwz⟩; rw [hwz]; clear hwz))
  go_cut [5, 11, 12, 13, 14, 15, 16, 17, 18, 19, 20, 21, 22] (fun v _ _ _ _ _ _ _ _ _ _ _ _ wx => v = .slice (some ⟨br, 0, none⟩) m n1 ∧ wx = w2)
  case first =>
    cases em with
    | true =>
      have HMM := Lib.hid (show m = n0 from HMN.out)
      go_wp2_with fail
      go_meet
      exact ⟨by rw [HMM.out], rfl⟩
    | false =>
      have HMM := Lib.hid (show m = n1 from HMN.out)
      go_wp2_with fail
      go_meet
      exact ⟨by rw [HMM.out], rfl⟩
  case rest =>
    obtain ⟨rfl, hcw⟩ := hcut
    rw [hcw]
    clear hcw
    clear hsl hlast hsub hsub2 hn01 hem
    go_wp2_with fail
    have hf0 : w2.frozen? ⟨w.heap.size, 0, none⟩ = false := blk_free BF.out 0
    have hf1 : w2.frozen? ⟨w.heap.size, 1, none⟩ = false := blk_free BF.out 1
    have hf2 : w2.frozen? ⟨w.heap.size, 2, none⟩ = false := blk_free BF.out 2
    have hs0 := fun v => box_set (i := 0) BF.out (by decide) v
    have hs1 := fun v0 v => box_set (i := 1) (blk_set BF.out 0 v0) (by simp) v
    have hs2 := fun v0 v1 v => box_set (i := 2) (blk_set (blk_set BF.out 0 v0) 1 v1) (by simp) v
    have hg0 : w2.cell? ⟨w.heap.size, 0, none⟩ = some (.int .i64 0) := blk_cell BF.out 0
    have hg1 : w2.cell? ⟨w.heap.size, 1, none⟩ = some (.int .i64 0) := blk_cell BF.out 1
    have hg2 : w2.cell? ⟨w.heap.size, 2, none⟩ = some (.string ⟨#[]⟩) := blk_cell BF.out 2
    go_loopg [25] (m + 1) (fun g2 kk wr => ∃ k : Nat, g2 = m + 1 - k ∧ kk = .int .i64 k ∧ k ≤ m ∧ (∀ (i : Nat) r f, i < k → X[i]? = some r → X[0]? = some f → mayB r f i = true) ∧ wr = w2)
    case atStart => exact ⟨0, rfl, rfl, by omega, fun i r f hi => by omega, rfl⟩
    case round =>
      obtain ⟨k, hgk, rfl, hk, hz, rfl⟩ := hrel
      have HZ := Lib.hid hz
      clear hz
      by_cases hlt : k < m
      · have hltI : (k : Int) < (m : Int) := by omega
        have hwk : IntKind.i64.wrap ((k : Int) + 1) = (k : Int) + 1 := IntWalk.i64_in _ (by omega)
        obtain ⟨r, hr⟩ : ∃ r, X[k]? = some r := ⟨_, List.getElem?_eq_getElem (by rw [← PR.out.lm]; exact hlt)⟩
        obtain ⟨f, hf⟩ : ∃ f, X[0]? = some f := ⟨_, List.getElem?_eq_getElem (by rw [← PR.out.lm]; omega)⟩
        have hcr := HCX.out k r hr
        have hcf := HCX.out 0 f hf
        have hm0 : (0 : Nat) < m := by omega
        obtain ⟨b, hb⟩ : ∃ b, mayB r f k = b := ⟨_, rfl⟩
        have hmy := may_any r f k (by have := PR.out.sz k r hr; omega) (by have := PR.out.sz 0 f hf; omega) (by omega) wr
        rw [hb] at hmy
        have HMY := Lib.hid hmy
        have HB := Lib.hid hb; have HRR := Lib.hid hr; have HFF := Lib.hid hf
        clear hmy hb hr hf hlt
        cases b with
        | false =>
          have HE := Lib.hid (show V = .tuple #[.agg #[.int .i64 0, .int .i64 0, .string ⟨#[]⟩], .int .i64 (k : Int), .int .i64 30] by
            rw [HV.out]
            have hb := badRow_some HRR.out HFF.out HB.out (fun i r hi hr => HZ.out i r f hi hr HFF.out)
            unfold parseP
            rw [← PR.out.rows, hb]; rfl)
          have KE := Lib.hid (fun (v0 v1 v2 : Value) => show Kp No w (((wr.setCell ⟨w.heap.size, 0, none⟩ v0).setCell ⟨w.heap.size, 1, none⟩ v1).setCell ⟨w.heap.size, 2, none⟩ v2) from
            ((K2.out.setCell (fun e => by have e : w.heap.size < w.heap.size := e; have := HLT.out; omega) _).setCell (fun e => by have e : w.heap.size < w.heap.size := e; have := HLT.out; omega) _).setCell (fun e => by have e : w.heap.size < w.heap.size := e; have := HLT.out; omega) _)
          clear HZ
          go_wp2_with (go_at_call 72; refine HMY.out.mono ?_; rintro e wz ⟨rfl, hwz⟩; rw [hwz]; clear hwz)
          exact bodyPost_ret (v := .tuple #[.agg #[.int .i64 0, .int .i64 0, .string ⟨#[]⟩], .int .i64 (k : Int), .int .i64 30]) (by simp [results, Tryz.results30, go_sem, hs0, hs1, hs2]) rfl ⟨by rw [HE.out], KE.out _ _ _⟩
        | true =>
          have HZ2 := Lib.hid (show ∀ (i : Nat) r f, i < k + 1 → X[i]? = some r → X[0]? = some f → mayB r f i = true by
            intro i r' f' hi hr hf
            rcases Nat.lt_or_ge i k with h | h
            · exact HZ.out i r' f' h hr hf
            · obtain rfl : i = k := by omega
              have e1 := HRR.out; have e2 := HFF.out
              rw [hr] at e1; rw [hf] at e2
              cases e1; cases e2
              exact HB.out)
          clear HZ
          go_wp2_with (go_at_call 72; refine HMY.out.mono ?_; rintro e wz ⟨rfl, hwz⟩; rw [hwz]; clear hwz)
          go_roundg (m + 1 - (k + 1))
          case measure => omega
          case rel => exact ⟨k + 1, rfl, by go_num, by omega, HZ2.out, rfl⟩
      · obtain rfl : k = m := by omega
        have hd0 : ¬ (k : Int) < (k : Int) := by omega
        have KE := Lib.hid (fun (w2 : World) (hk : Kp No w w2) (v0 v1 v2 : Value) => show Kp No w (((w2.setCell ⟨w.heap.size, 0, none⟩ v0).setCell ⟨w.heap.size, 1, none⟩ v1).setCell ⟨w.heap.size, 2, none⟩ v2) from
            ((hk.setCell (fun e => by have e : w.heap.size < w.heap.size := e; have := HLT.out; omega) _).setCell (fun e => by have e : w.heap.size < w.heap.size := e; have := HLT.out; omega) _).setCell (fun e => by have e : w.heap.size < w.heap.size := e; have := HLT.out; omega) _)
        clear hlt
        by_cases h0 : k = 0
        · have h0b : ((k : Int) == 0) = true := by simp [h0]
          have HE := Lib.hid (show V = .tuple #[.agg #[.int .i64 0, .int .i64 0, .string ⟨#[]⟩], .int .i64 0, .int .i64 30] by
            rw [HV.out]
            have hX : X = [] := List.eq_nil_of_length_eq_zero (by rw [← PR.out.lm]; exact h0)
            unfold parseP
            rw [← PR.out.rows, hX]
            show PVal (if rightB ⟨0, 0, joinB []⟩ = true then _ else _) = _
            rw [if_neg (by rw [rightB_f (fun r => by have := r.w1; simp at this)]; simp)]; rfl)
          clear h0
          go_wp2_with fail
          exact bodyPost_ret (v := .tuple #[.agg #[.int .i64 0, .int .i64 0, .string ⟨#[]⟩], .int .i64 0, .int .i64 30]) (by simp [results, Tryz.results30, go_sem, hs0, hs1, hs2]) rfl ⟨by rw [HE.out], KE.out _ K2.out _ _ _⟩
        · have h0b : ((k : Int) == 0) = false := by simp; omega
          obtain ⟨f, hf⟩ : ∃ f, X[0]? = some f := ⟨_, List.getElem?_eq_getElem (by rw [← PR.out.lm]; omega)⟩
          have hcf := HCX.out 0 f hf
          have hm0 : (0 : Nat) < k := by omega
          have hfs := PR.out.sz 0 f hf
          obtain ⟨q, hq⟩ : ∃ q, q = f.size := ⟨_, rfl⟩
          have hqI : ((f.size : Nat) : Int) = (q : Int) := by omega
          have HQ := Lib.hid hq
          have HN := Lib.hid (show badRow (rowsB s) = none by
            rw [← PR.out.rows]
            exact badRow_none hf (fun i r hi hr => HZ.out i r f (by rw [PR.out.lm]; exact hi) hr hf))
          obtain ⟨F, hF⟩ : ∃ F : Flr, F = ⟨(q : Int), (k : Int), joinB X⟩ := ⟨_, rfl⟩
          have HP := Lib.hid (show parseP s = if rightB F = true then (F, 0, 0) else (Flr.zero, k, 30) by
            unfold parseP
            rw [HN.out, hF, ← PR.out.rows, ← PR.out.lm]
            have : X.getD 0 ByteArray.empty = f := by simp [hf]
            rw [this, ← hq])
          have JN := Lib.hid (fun (wx : World) (hk : Kp No wr wx) => show Calls Tryz.prog 73 #[.slice (some ⟨br, 0, none⟩) k n1, .string ⟨#[]⟩] wx fun e w' => e = .returned (.string (joinB X)) ∧ Kp No wx w' ∧ Kp No wr w' from by
            have h := Tryz.strings_Join br 0 n1 X ⟨#[]⟩ wx (fun j x hx => by rw [Nat.zero_add]; exact hk.cellS (HCX.out j x hx) (no_no _)) (Nat.lt_of_lt_of_le (lt_of_block BR.out) hk.size) (by rw [← PR.out.lm]; omega) (by rw [← PR.out.lm]; omega) (by
              rw [show (ByteArray.mk #[]).data.toList = [] from rfl, join_nil]
              have := PR.out.flat; omega)
            rw [show (ByteArray.mk #[]).data.toList = [] from rfl, join_nil, ← PR.out.lm] at h
            exact h.mono fun e w' ⟨he, hb⟩ => ⟨he, Kp.ofBelow hb, hk.no (Kp.ofBelow hb)⟩)
          obtain ⟨S, hS⟩ : ∃ S, S = joinB X := ⟨_, rfl⟩
          rw [← hS] at JN hF
          have HF := Lib.hid hF
          have hSs : S.size ≤ 1000001 := by rw [hS]; unfold joinB; rw [mkB_size]; exact Nat.le_trans PR.out.flat (by omega)
          clear hf hq hfs h0 hF HN hS
          go_upto_region 12 with fail
          go_cut [8, 44, 45, 46, 47, 48, 49, 50, 51, 52] (fun t8 _ _ _ _ _ _ _ _ _ wx => ∃ b8, t8 = .pointer (some ⟨b8, 0, none⟩) ∧ wx.heap[b8]? = some (.cells #[.int .i64 (q : Int), .int .i64 (k : Int), .string S] 23 (0, 0)) ∧ Kp No wr wx ∧ b8 ≠ w.heap.size)
          case first =>
            have hcfa := fun o => ((Kp.refl No wr).alloc o).cellS hcf (no_no _)
            go_region_law (go_simp; go_at_call 73; refine (JN.out _ (by first | exact (Kp.refl _ _).drew | exact ((Kp.refl _ _).alloc _).drew | exact ((Kp.refl _ _).drew).alloc _)).mono ?_; rintro e w3 ⟨rfl, k3, k4⟩; have c3 := k4.cellS hcf (no_no _); have c3a := fun o => ((Kp.refl No w3).alloc o).cellS c3 (no_no _); have hz := k4.size; (first | (have z8 := k3.blk (g := wr.heap.size) (blk_new wr _) (no_no _); have y0 := blk_cell z8 0; have y1 := blk_cell z8 1; have y2 := blk_cell z8 2; have f0 := blk_free z8 0; have f1 := blk_free z8 1; have f2 := blk_free z8 2; have Z8 := Lib.hid z8; clear z8; simp at y0 y1 y2) | skip); have K3 := Lib.hid k3; have K4 := Lib.hid k4; clear k3 k4)
            all_goals
              have hbl := lt_of_block BF.out
              clear hcfa
              go_wp2_with fail
              go_meet
              first
              | exact ⟨_, rfl, blk_new w3 _, K4.out.alloc _, by omega⟩
              | exact ⟨_, rfl, by have := blk_set (blk_set (blk_set Z8.out 0 (.int .i64 (q : Int))) 1 (.int .i64 (k : Int))) 2 (.string S); simpa using this, ((K4.out.setCell (fun e => absurd e (Nat.lt_irrefl _)) _).setCell (fun e => absurd e (Nat.lt_irrefl _)) _).setCell (fun e => absurd e (Nat.lt_irrefl _)) _, by omega⟩
          case rest =>
            obtain ⟨b8, rfl, hbx, kx, hne⟩ := hcut
            have KX := Lib.hid kx
            have hx0 := blk_cell hbx 0
            have hx1 := blk_cell hbx 1
            have hx2 := blk_cell hbx 2
            simp at hx0 hx1 hx2
            have HBX := Lib.hid hbx; have HNE := Lib.hid hne
            clear kx hbx hne hf0 hf1 hf2 hg0 hg1 hg2 hs0 hs1 hs2 hcf
            obtain ⟨t, ht⟩ : ∃ t, rightB ⟨(q : Int), (k : Int), S⟩ = t := ⟨_, rfl⟩
            have HRT := Lib.hid (right_at ⟨(q : Int), (k : Int), S⟩ (by show S.size ≤ _; omega) t ht)
            have HT := Lib.hid ht
            clear ht
            go_wp2_with fail
            refine (HRT.out _).mono ?_
            rintro e w5 ⟨rfl, k5⟩
            have K5 := Lib.hid (K2.out.no (KX.out.no k5))
            have BF5 := Lib.hid ((KX.out.no k5).blk BF.out (no_no _))
            have hf0 : w5.frozen? ⟨w.heap.size, 0, none⟩ = false := blk_free BF5.out 0
            have hf1 : w5.frozen? ⟨w.heap.size, 1, none⟩ = false := blk_free BF5.out 1
            have hf2 : w5.frozen? ⟨w.heap.size, 2, none⟩ = false := blk_free BF5.out 2
            have hg0 : w5.cell? ⟨w.heap.size, 0, none⟩ = some (.int .i64 0) := blk_cell BF5.out 0
            have hg1 : w5.cell? ⟨w.heap.size, 1, none⟩ = some (.int .i64 0) := blk_cell BF5.out 1
            have hg2 : w5.cell? ⟨w.heap.size, 2, none⟩ = some (.string ⟨#[]⟩) := blk_cell BF5.out 2
            have hs0 := fun v => box_set (i := 0) BF5.out (by decide) v
            have hs1 := fun v0 v => box_set (i := 1) (blk_set BF5.out 0 v0) (by simp) v
            have hs2 := fun v0 v1 v => box_set (i := 2) (blk_set (blk_set BF5.out 0 v0) 1 v1) (by simp) v
            have hy := k5.blk HBX.out (no_no _)
            have hy0 := blk_cell hy 0
            have hy1 := blk_cell hy 1
            have hy2 := blk_cell hy 2
            simp at hy0 hy1 hy2
            clear hx0 hx1 hx2 k5 hy
            cases t with
            | true =>
              have HE := Lib.hid (show V = .tuple #[.agg #[.int .i64 (q : Int), .int .i64 (k : Int), .string S], .int .i64 0, .int .i64 0] by
                rw [HV.out, HP.out, HF.out, if_pos HT.out]; rfl)
              go_wp2_with fail
              exact bodyPost_ret (v := .tuple #[.agg #[.int .i64 (q : Int), .int .i64 (k : Int), .string S], .int .i64 0, .int .i64 0]) (by simp [results, Tryz.results30, go_sem, hs0, hs1, hs2]) rfl ⟨by rw [HE.out], KE.out _ K5.out _ _ _⟩
            | false =>
              have HE := Lib.hid (show V = .tuple #[.agg #[.int .i64 0, .int .i64 0, .string ⟨#[]⟩], .int .i64 (k : Int), .int .i64 30] by
                rw [HV.out, HP.out, HF.out, if_neg (by rw [HT.out]; simp)]; rfl)
              go_wp2_with fail
              exact bodyPost_ret (v := .tuple #[.agg #[.int .i64 0, .int .i64 0, .string ⟨#[]⟩], .int .i64 (k : Int), .int .i64 30]) (by simp [results, Tryz.results30, go_sem, hs0, hs1, hs2]) rfl ⟨by rw [HE.out], KE.out _ K5.out _ _ _⟩
end Go.Proofs.YtfpikgkbccgchaaGreatDoor

namespace Go.Proofs.YtfpikgkbccgchaaGreatDoor
set_option linter.unusedVariables false
set_option linter.unusedSimpArgs false
open Go.RowKit

theorem parse_at (s : ByteArray) (hs : s.size ≤ 1000000) (r : Flr × Nat × Nat) (hr : parseP s = r) (V : Value) (hV : PVal r = V) (w : World) : Calls Tryz.prog 30 #[.string s] w fun e w' => e = .returned V ∧ Kp No w w' := by
  subst hr hV; exact parse_any s hs w
theorem dock_at (f : Flr) (hs : f.s.size ≤ 1000000) (c : Int) (hc : c ≤ 1000000) (r : Option Nat) (hr : dockP f c = r) (V : Value) (hV : ZVal r = V) (w : World) : Calls Tryz.prog 34 #[f.val, .int .i64 c] w fun e w' => e = .returned V ∧ Kp No w w' := by
  subst hr hV; exact dock_any f (by omega) c (by omega) w
theorem zone_at (f : Flr) (hs : f.s.size ≤ 1000000) (c : Int) (hc : c ≤ 1000000) (r : Option Nat) (hr : zoneP f c = r) (V : Value) (hV : ZVal r = V) (w : World) : Calls Tryz.prog 32 #[f.val, .int .i64 c] w fun e w' => e = .returned V ∧ Kp No w w' := by
  subst hr hV; exact zone_any f (by omega) c (by omega) w
theorem robots_at (f : Flr) (hs : f.s.size ≤ 1000000) (n : Nat) (hn : robotsP f = n) (w : World) : Calls Tryz.prog 18 #[f.val] w fun e w' => e = .returned (.int .i64 (n : Int)) ∧ Kp No w w' := by
  subst hn; exact robots_any f (by omega) w
def RetI (L : List Nat) (w : World) (e : Ending) (w' : World) : Prop := ∃ A q, e = .returned (.slice A L.length q) ∧ NewS IK 3 w w' (.slice A L.length q) (ints L)
theorem RetI.of {L : List Nat} {w w' : World} {e : Ending} (h : ∃ v, e = .returned v ∧ NewS IK 3 w w' v (ints L)) : RetI L w e w' := by
  obtain ⟨v, rfl, ns⟩ := h
  obtain ⟨A, q, rfl⟩ := ns.own.rd.shape
  rw [ints_len] at ns ⊢
  exact ⟨A, q, rfl, ns⟩
theorem lanes_at (f : Flr) (hs : f.s.size ≤ 1000000) (L : List Nat) (hL : lanesP f = L) (w : World) : Calls Tryz.prog 13 #[f.val] w (RetI L w) := by
  subst hL; exact (lanes_any f (by omega) w).mono fun _ _ h => .of h
end Go.Proofs.YtfpikgkbccgchaaGreatDoor
