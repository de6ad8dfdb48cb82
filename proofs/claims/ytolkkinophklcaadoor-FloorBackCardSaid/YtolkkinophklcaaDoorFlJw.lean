/- floor.joined: the walk. -/
import Derived.Test.YtolkkinophklcaaDoorFlJ
import Derived.Deep.LoopGhost
namespace Go.Proofs.YtolkkinophklcaaDoor
set_option linter.unusedVariables false
set_option linter.unusedSimpArgs false
open Go.RowKit

def JoinedR (W H : Nat) (s : ByteArray) (w : World) (e : Ending) (w' : World) : Prop := ∃ d : Bool, e = .returned (.bool d) ∧ (d = true ↔ joinedP W H s) ∧ Kp No w w'
set_option maxHeartbeats 2000000 in
set_option maxRecDepth 100000 in
theorem joined_any (W H : Nat) (s : ByteArray) (hW1 : 1 ≤ W) (hW : W ≤ 16) (hH1 : 1 ≤ H) (hH : H ≤ 16) (hs : s.size = W * H) (w : World) :
    Calls Tryd.prog 40 #[(Flr.mk W H s).val] w (JoinedR W H s w) := by
  unfold Flr.val
  have hs256 : s.size ≤ 256 := by rw [hs]; exact Nat.mul_le_mul hW hH
  have HS := Lib.hid hs
  obtain ⟨n, hn⟩ : ∃ n, n = s.size := ⟨_, rfl⟩
  have hnI : ((s.size : Nat) : Int) = (n : Int) := by omega
  have HN := Lib.hid hn
  have hn256 : n ≤ 256 := by omega
  have hmm := @run_makeMap Tryd.prog
  clear hs hn hs256
  go_enter Tryd.func40, Tryd.ntmps40
  go_wp2
  obtain ⟨bf, hbf⟩ : ∃ bf, bf = w.heap.size := ⟨_, rfl⟩
  obtain ⟨bm, hbm⟩ : ∃ bm, bm = w.heap.size + 1 := ⟨_, rfl⟩
  obtain ⟨w0, hw0⟩ : ∃ w0, w0 = (w.alloc (.cells #[.int .i64 (W : Int), .int .i64 (H : Int), .string s] 24)).alloc (.map #[] 0) := ⟨_, rfl⟩
  have K0 := Lib.hid (show Kp No w w0 by rw [hw0]; exact ((Kp.refl _ _).alloc _).alloc _)
  have J0 : Hid (JnW W H s bf bm w0 (.slice none 0 0) (lanesTo s 0) [] w0) := Lib.hid (by
    rw [hw0, hbf, hbm]
    refine ⟨blk_alloc (blk_new w _) _, ?_, Own.nil _ _ _, fun g hg => by simp [Value.ownBlock] at hg, Kp.refl _ _, by simp; omega, by simp, by omega⟩
    show SetI _ _ []
    have := SetI.made (w.alloc (.cells #[.int .i64 (W : Int), .int .i64 (H : Int), .string s] 24))
    simpa using this)
  have BM := Lib.hid (show ∀ j, j < w.heap.size → ¬ j = bm by intro j hj e; omega)
  rw [← hbm, ← hbf, ← hw0]
  clear hbf hbm hw0 hmm
  go_loopg [4, 13] (n + 1) (fun g2 v kk wr => ∃ k : Nat, g2 = n + 1 - k ∧ kk = .int .i64 k ∧ k ≤ n ∧ ∃ N : List Nat, N.length ≤ 1 ∧ (∀ i ∈ N, i < k ∧ kdS s i = 2) ∧ (N = [] → lanesTo s k = []) ∧ JnW W H s bf bm w0 v (lanesTo s k) N wr)
  case atStart => exact ⟨0, rfl, rfl, by omega, [], by simp, by simp, fun _ => rfl, J0.out⟩
  case round =>
    obtain ⟨k, hgk, rfl, hk, N, hN1, hN2, hN3, hj⟩ := hrel
    obtain ⟨A, c, rfl⟩ := hj.own.rd.shape
    have HJ := Lib.hid hj; have HN1 := Lib.hid hN1; have HN2 := Lib.hid hN2; have HN3 := Lib.hid hN3
    clear hj hN1 hN2 hN3
    by_cases hlt : k < n
    · have hltI : (k : Int) < (n : Int) := by omega
      have hwk : IntKind.i64.wrap ((k : Int) + 1) = (k : Int) + 1 := IntWalk.i64_in _ (by omega)
      have hks : k < s.size := by have := HN.out; omega
      have hksI : (k : Int) < ((s.size : Nat) : Int) := by omega
      have hbt := bt_at s k
      have hb2 := blk_cell HJ.out.box 2
      have hb2' : wr.cell? ⟨bf, 2, none⟩ = some (.string s) := hb2
      obtain ⟨K, hK⟩ : ∃ K, K = kindB (bt s k) := ⟨_, rfl⟩
      have hkd := fun w => kind_any (bt s k) w
      rw [← hK] at hkd
      have HK := Lib.hid (show K = kdS s k from hK)
      have HKD := Lib.hid hkd
      clear hK hkd hb2
      by_cases h2 : K = 2
      · have h2b : ((K : Int) == 2) = true := by simp [h2]
        have hkl : kdS s k = 2 := by rw [← HK.out, h2]
        have HKL := Lib.hid hkl
        have hnot : k ∉ lanesTo s k := fun e => by have := (lanesTo_mem.1 e).1; omega
        obtain ⟨w1, hup, set1, kp1⟩ := HJ.out.set.add mapB (k : Int)
        rw [addS_new hnot, ← lanesTo_in hkl] at set1
        have J1 := Lib.hid ((HJ.out.map set1 kp1).one k)
        clear set1 kp1 hnot hkl h2
        go_wp2_with (go_at_call 39; refine (HKD.out _).mono ?_; rintro e wz ⟨rfl, rfl⟩)
        go_roundg (n + 1 - (k + 1))
        case measure => omega
        case rel => exact ⟨k + 1, rfl, by go_num, by omega, [k], by simp, fun i hi => by rw [List.mem_singleton.1 hi]; exact ⟨by omega, HKL.out⟩, fun e => by simp at e, J1.out⟩
      · have h2b : ((K : Int) == 2) = false := by simp; omega
        have hkl : kdS s k ≠ 2 := by rw [← HK.out]; exact h2
        have HKL := Lib.hid (lanesTo_out hkl)
        clear hkl h2
        go_wp2_with (go_at_call 39; refine (HKD.out _).mono ?_; rintro e wz ⟨rfl, rfl⟩)
        go_roundg (n + 1 - (k + 1))
        case measure => omega
        case rel => exact ⟨k + 1, rfl, by go_num, by omega, N, HN1.out, fun i hi => ⟨by have := (HN2.out i hi).1; omega, (HN2.out i hi).2⟩, fun e => by rw [HKL.out]; exact HN3.out e, by rw [HKL.out]; exact HJ.out⟩
    · obtain rfl : k = n := by omega
      have hd0 : ¬ (k : Int) < (k : Int) := by omega
      clear hlt
      rcases N with _ | ⟨l, N'⟩
      · have hno : ¬ joinedP W H s := by
          rintro ⟨⟨i, hi⟩, _⟩
          have h1 := HN3.out rfl
          have h2 : i ∈ lanesTo s k := lanesTo_mem.2 ⟨by have := hi.1; have := HN.out; omega, hi.2⟩
          rw [h1] at h2
          simp at h2
        have HNO := Lib.hid hno
        clear hno
        go_wp2
        go_ret
        exact ⟨false, rfl, by simp [HNO.out], K0.out.trans' HJ.out.kp (fun j hj e => absurd e (BM.out j hj))⟩
      · obtain rfl : N' = [] := by have := HN1.out; simp at this; exact this
        have hl : laneI s l := ⟨by have := (HN2.out l (by simp)).1; have := HN.out; omega, (HN2.out l (by simp)).2⟩
        rcases HJ.out.own.b with ⟨_, he⟩ | ⟨g, cap, hv, hcm, hlc, hob⟩
        · simp [ints] at he
        simp only [Value.slice.injEq] at hv
        obtain ⟨rfl, _, rfl⟩ := hv
        have hc0 : wr.cell? ⟨g, 0, none⟩ = some (.int .i64 (l : Int)) := hob.cells 0 _ rfl
        obtain ⟨w2, hdel, set2, kp2⟩ := HJ.out.set.del mapB (l : Int)
        rw [ints_filter] at set2
        have J2 := HJ.out.map set2 kp2
        have D0 := Dfs.start (W := W) (H := H) hl
        have hLn : lanesTo s k = lanesTo s s.size := by rw [← HN.out]
        rw [hLn] at J2
        have HJ2 := Lib.hid J2; have HD0 := Lib.hid D0
        have HML := Lib.hid (show ((lanesTo s s.size).filter fun x => x != l).length ≤ 256 from Nat.le_trans (List.length_filter_le _ _) (Nat.le_trans (lanesTo_len _ _) (by have := HN.out; omega)))
        clear set2 kp2 J2 D0 hLn hl hob hlc hcm
        go_wp2
        obtain ⟨wb, rfl⟩ : ∃ wb : World, wb = wr := ⟨_, rfl⟩
        go_loopg [4] (2 * ((lanesTo s s.size).filter fun x => x != l).length + 1) (fun g2 v wr => ∃ L N : List Nat, g2 = 2 * L.length + N.length ∧ N.length + L.length ≤ 300 ∧ JnW W H s bf bm w0 v L N wr ∧ Dfs W H s l L N)
        case atStart => exact ⟨_, [l], rfl, by have := HML.out; simp; omega, HJ2.out, HD0.out⟩
        case round =>
          obtain ⟨L, N, hg2, hNL, hj2, hd2⟩ := hrel
          rcases snoc_cases N with rfl | ⟨N', c2, rfl⟩
          · obtain ⟨A2, q2, rfl⟩ := hj2.own.rd.shape
            have HE := Lib.hid (hd2.end_ hW1 HS.out)
            have HKP := Lib.hid hj2.kp
            have hlen := hj2.set.len mapB
            have hll : (ints L).length = L.length := ints_len L
            rw [hll] at hlen
            obtain ⟨d, hd⟩ : ∃ d : Bool, d = ((L.length : Int) == 0) := ⟨_, rfl⟩
            have hdI := hd.symm
            have HD := Lib.hid hd
            clear hj2 hd2 hd
            go_wp2
            go_ret
            refine ⟨d, rfl, ?_, K0.out.trans' HKP.out (fun j hj e => absurd e (BM.out j hj))⟩
            rw [HD.out, ← HE.out]
            simp
          · obtain ⟨A2, q2, rfl⟩ := hj2.own.rd.shape
            rcases hj2.own.b with ⟨_, he⟩ | ⟨g2, cap2, hv, hcm, _, _⟩
            · simp [ints] at he
            simp only [Value.slice.injEq] at hv
            obtain ⟨rfl, _, rfl⟩ := hv
            obtain ⟨p, hp⟩ : ∃ p, p = (ints (N' ++ [c2])).length := ⟨_, rfl⟩
            rw [← hp] at hj2 ⊢
            obtain ⟨m, hm⟩ : ∃ m, m = N'.length := ⟨_, rfl⟩
            obtain ⟨jc, hcell, hmc, hpm⟩ := hj2.cut hm
            have hc2 := (hd2.next c2 (by simp)).1
            have hcW : c2 < W * H := by rw [← HS.out]; exact hc2.1
            have di := hd2.pop
            have hp0 : (0 : Int) < (p : Int) := by omega
            have hpw : IntKind.i64.wrap ((p : Int) - 1) = (m : Int) := by rw [IntWalk.i64_in _ (by simp at hNL; omega)]; omega
            have hmp : (m : Int) < (p : Int) := by omega
            have hsl := fun w => run_slice_hi elI g2 0 p q2 m (by omega) (m : Int) rfl w
            have hb0 : wr.cell? ⟨bf, 0, none⟩ = some (.int .i64 (W : Int)) := blk_cell hj2.box 0
            have hb1 : wr.cell? ⟨bf, 1, none⟩ = some (.int .i64 (H : Int)) := blk_cell hj2.box 1
            have hb2 : wr.cell? ⟨bf, 2, none⟩ = some (.string s) := blk_cell hj2.box 2
            have JC := Lib.hid jc; have DI := Lib.hid di; have HCW := Lib.hid hcW
            have HG := Lib.hid (show 2 * L.length + N'.length + 1 = gk by rw [hg2]; simp; omega)
            have HNL := Lib.hid (show N'.length + L.length ≤ 300 by simp at hNL; omega)
            have HGE := Lib.hid (fun g (h : (Value.slice (some ⟨g2, 0, none⟩) m q2).ownBlock = some g) => jc.own.lt h)
            clear hj2 hd2 jc di hc2 hcW hp hm hmc hpm hg2 hNL hcm
            go_wp2_with fail
            refine (beside_any W H c2 s hW1 hW hH1 hH HCW.out wr).mono ?_
            rintro e w3 ⟨vB, rfl, nb⟩
            obtain ⟨AB, qB, rfl⟩ := nb.own.rd.shape
            rw [ints_len]
            obtain ⟨nB, hnB⟩ : ∃ nB, nB = (besideP W H c2).length := ⟨_, rfl⟩
            have hB4 : nB ≤ 4 := by rw [hnB, ← bsA_four]; exact bsA_len W H c2 4
            rw [ints_len, ← hnB] at nb
            rw [← hnB]
            have HNB := Lib.hid hnB
            have J3 := Lib.hid (JC.out.no nb.kp); have OB := Lib.hid nb.own
            have NE := Lib.hid (show ∀ g, (Value.slice AB nB qB).ownBlock = some g → w0.heap.size ≤ g ∧ (Value.slice (some ⟨g2, 0, none⟩) m q2).ownBlock ≠ some g by
              intro g hg
              have h1 := nb.ge g hg
              have h2 := JC.out.kp.size
              exact ⟨by omega, fun e => by have := HGE.out g e; omega⟩)
            clear nb hnB hb0 hb1 hb2 hcell hsl
            go_wp2_with fail
            obtain ⟨wc, rfl⟩ : ∃ wc : World, wc = wr := ⟨_, rfl⟩
            go_loopg [4, 52] (nB + 1) (fun g3 v jj wr => ∃ (j : Nat) (L N : List Nat), g3 = nB + 1 - j ∧ jj = .int .i64 j ∧ j ≤ nB ∧ 2 * L.length + N.length + 1 ≤ gk ∧ N.length + L.length ≤ 300 ∧ JnW W H s bf bm w0 v L N wr ∧ DfsI W H s l c2 j L N ∧ Own IK 3 wr (.slice AB nB qB) (ints (besideP W H c2)) ∧ ∀ g, (Value.slice AB nB qB).ownBlock = some g → w0.heap.size ≤ g ∧ v.ownBlock ≠ some g)
            case atStart => exact ⟨0, L, N', rfl, rfl, by omega, by have := HG.out; omega, HNL.out, J3.out, DI.out, OB.out, NE.out⟩
            case round =>
              obtain ⟨j, L2, N2, hg3, rfl, hj, hM, hNL2, jw, di, ob, ne⟩ := hrel
              obtain ⟨A3, q3, rfl⟩ := jw.own.rd.shape
              rw [ints_len] at jw ne ⊢
              obtain ⟨p3, hp3⟩ : ∃ p3, p3 = N2.length := ⟨_, rfl⟩
              rw [← hp3] at jw ne ⊢
              have hp3b : p3 ≤ 300 := by omega
              have HP3 := Lib.hid hp3
              have JW := Lib.hid jw; have DW := Lib.hid di; have OW := Lib.hid ob; have NW := Lib.hid ne; have HM := Lib.hid hM; have HL2 := Lib.hid hNL2
              clear jw di ob ne hM hNL2 hp3
              by_cases hlt : j < nB
              · have hltI : (j : Int) < (nB : Int) := by omega
                have hwj : IntKind.i64.wrap ((j : Int) + 1) = (j : Int) + 1 := IntWalk.i64_in _ (by omega)
                obtain ⟨b, hb⟩ : ∃ b, (besideP W H c2)[j]? = some b := ⟨_, List.getElem?_eq_getElem (by rw [← HNB.out]; exact hlt)⟩
                rcases OW.out.b with ⟨hv, _⟩ | ⟨gB, capB, hv, _, _, _⟩
                · simp only [Value.slice.injEq] at hv; omega
                simp only [Value.slice.injEq] at hv
                obtain ⟨rfl, hzz, rfl⟩ := hv
                clear hzz
                have hcb : wr.cell? ⟨gB, j, none⟩ = some (.int .i64 (b : Int)) := by have := OW.out.rd.intAt (ints_get hb); simpa using this
                have hlook := JW.out.set.look mapB (b : Int)
                have HBJ := Lib.hid hb
                by_cases hbL : b ∈ L2
                · rw [decide_eq_true (ints_mem.2 hbL)] at hlook
                  obtain ⟨w4, hdel, set4, kp4⟩ := JW.out.set.del mapB (b : Int)
                  rw [ints_filter] at set4
                  have J4 := Lib.hid (JW.out.map set4 kp4)
                  have O4 := Lib.hid (OW.out.kp kp4 (fun g hg e => by have e : g = bm := e; have := (NW.out g hg).1; have := JW.out.lt; omega))
                  have D4 := Lib.hid (DW.out.meet hb hbL)
                  have HLL := Lib.hid (filter_ne_lt hbL)
                  clear set4 kp4 hb hbL
                  go_wp2_with (at_builtin; refine wpl_append elI rfl (.tmp 61) (.tmp 63) rfl rfl rfl (l := ints N2) (m := [(b : Int)]) ?c1 ?c2 ?c3 ?c4 ?c5)
                  case c1 => exact J4.out.own.alloc _
                  case c2 => exact Rd.litAt IK 3 _ _ [(b : Int)] rfl (by unfold maxLen; simp) _ _ rfl rfl
                  case c3 => show (ints N2).length + 1 ≤ maxLen; rw [ints_len, ← HP3.out]; unfold maxLen; omega
                  case c4 => show ((ints N2).length + 1) * 8 ≤ _; rw [ints_len, ← HP3.out]; omega
                  case c5 =>
                    intro v' w' k1 k2 k3
                    rw [← ints_snoc] at k1
                    have J5 := J4.out.app ((Kp.refl No w4).alloc _) k1 k2 k3 (Nat.le_succ _)
                    have O5 := (O4.out.alloc (.cells #[.int .i64 (b : Int)] 3)).kp k2 (fun g hg e => (NW.out g hg).2 e)
                    have N5 : ∀ g, (Value.slice (some ⟨gB, 0, none⟩) nB qB).ownBlock = some g → w0.heap.size ≤ g ∧ v'.ownBlock ≠ some g := fun g hg => ⟨(NW.out g hg).1, fun e => by
                      rcases k3 g e with e | e
                      · exact (NW.out g hg).2 e
                      · have := O4.out.lt hg; have e : w4.heap.size + 1 ≤ g := e; omega⟩
                    obtain ⟨A5, q5, rfl⟩ := k1.rd.shape
                    have HJ5 := Lib.hid J5; have HO5 := Lib.hid O5; have HN5 := Lib.hid N5
                    clear J5 O5 N5 k1 k2 k3 hlook hdel hcb
                    go_wp2_with fail
                    go_roundg (nB + 1 - (j + 1))
                    case measure => omega
                    case rel => exact ⟨j + 1, _, N2 ++ [b], rfl, by go_num, by omega, by have := HM.out; have := HLL.out; simp; omega, by have := HL2.out; have := HLL.out; simp; omega, HJ5.out, D4.out, HO5.out, HN5.out⟩
                · rw [decide_eq_false (fun e => hbL (ints_mem.1 e))] at hlook
                  have D4 := Lib.hid (DW.out.seen hb hbL)
                  clear hb hbL
                  go_wp2_with fail
                  go_roundg (nB + 1 - (j + 1))
                  case measure => omega
                  case rel => exact ⟨j + 1, L2, N2, rfl, by go_num, by omega, HM.out, HL2.out, JW.out, D4.out, OW.out, NW.out⟩
              · obtain rfl : j = nB := by omega
                have hd0 : ¬ (j : Int) < (j : Int) := by omega
                have DE := Lib.hid (DfsI.done (by have := DW.out; rwa [HNB.out] at this))
                clear hlt
                go_wp2_with fail
                go_roundg (2 * L2.length + N2.length)
                case measure => have := HM.out; omega
                case rel => exact ⟨L2, N2, rfl, HL2.out, JW.out, DE.out⟩
end Go.Proofs.YtolkkinophklcaaDoor
