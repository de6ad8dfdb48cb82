/- carfaxref03.reached. -/
import Derived.Test.YtolkkinophklcaaDoorFlQb
import Derived.Test.YtolkkinophklcaaDoorFlQc
import Derived.Test.YtolkkinophklcaaDoorBlk
namespace Go.Proofs.YtolkkinophklcaaDoor
set_option linter.unusedVariables false
set_option linter.unusedSimpArgs false
open Go.RowKit

structure RcW (f : Flr) (bf g : Nat) (w : World) (on : List Bool) (wx : World) : Prop where
  bx : BxW f bf w wx
  bl : Blk Value.bool 4 wx g on
  lt : bf < g ∧ w.heap.size ≤ g
section
variable {f : Flr} {bf g : Nat} {w wx w' : World} {on : List Bool}
theorem RcW.no (h : RcW f bf g w on wx) (hk : Kp No wx w') : RcW f bf g w on w' := ⟨h.bx.no hk, h.bl.kpNo hk, h.lt⟩
theorem RcW.set (h : RcW f bf g w on wx) (i : Nat) (b : Bool) : RcW f bf g w (on.set i b) (wx.setCell ⟨g, i, none⟩ (.bool b)) :=
  ⟨⟨blk_far h.bx.box (by have := h.lt; show bf ≠ g; omega) _, h.bx.kp.setCell (fun e => by have e : g < w.heap.size := e; have := h.lt; omega) _⟩, h.bl.set i b, h.lt⟩
end
def RchR (W H : Nat) (s : ByteArray) (fr : Nat) (w : World) (e : Ending) (w' : World) : Prop :=
  ∃ g on, e = .returned (.slice (some ⟨g, 0, none⟩) s.size s.size) ∧ Blk Value.bool 4 w' g on ∧ w.heap.size ≤ g ∧ Kp No w w' ∧ on.length = s.size ∧ ∀ i : Nat, laneI s i → (on[i]? = some true ↔ Conn W H s fr i)

set_option maxHeartbeats 2000000 in
set_option maxRecDepth 100000 in
theorem reached_any (W H : Nat) (s : ByteArray) (fr : Nat) (hW1 : 1 ≤ W) (hW : W ≤ 16) (hH1 : 1 ≤ H) (hH : H ≤ 16) (hs : s.size = W * H) (hfr : fr < s.size) (w : World) :
    Calls Tryd.prog 41 #[(Flr.mk W H s).val, .int .i64 (fr : Int)] w (RchR W H s fr w) := by
  have HBX := Lib.hid (BxW.new (Flr.mk W H s) w)
  unfold Flr.val
  have hs256 : s.size ≤ 256 := by rw [hs]; exact Nat.mul_le_mul hW hH
  have HS := Lib.hid hs
  obtain ⟨n, hn⟩ : ∃ n, n = s.size := ⟨_, rfl⟩
  have hnI : ((s.size : Nat) : Int) = (n : Int) := by omega
  have HN := Lib.hid hn
  have hn256 : n ≤ 256 := by omega
  have hmk := run_mkBo n (by omega)
  have hfn : (fr : Int) < (n : Int) := by omega
  have ST := Lib.hid (RchI.start (W := W) (H := H) hfr)
  clear hs hn hs256 hfr
  go_enter Tryd.func41, Tryd.ntmps41
  obtain ⟨bf, hbf⟩ : ∃ bf, bf = w.heap.size := ⟨_, rfl⟩
  obtain ⟨w1, hw1⟩ : ∃ w1, w1 = w.alloc (.cells #[.int .i64 (W : Int), .int .i64 (H : Int), .string s] 24) := ⟨_, rfl⟩
  obtain ⟨w2, hw2⟩ : ∃ w2, w2 = w1.alloc (.cells ((List.replicate n false).map Value.bool).toArray 4) := ⟨_, rfl⟩
  obtain ⟨g, hg⟩ : ∃ g, g = w1.heap.size := ⟨_, rfl⟩
  have R0 := Lib.hid (show RcW (Flr.mk W H s) bf g w (List.replicate n false) w2 by
    rw [hw2, hg, hbf]
    refine ⟨BxW.no (w := w1) (by rw [hw1]; exact HBX.out) ((Kp.refl _ _).alloc _), blk_new w1 _, ?_⟩
    rw [hw1]; simp)
  have hcf : w2.frozen? ⟨g, fr, none⟩ = false := R0.out.bl.free fr
  have hc0 : w2.cell? ⟨g, fr, none⟩ = some (.bool false) := R0.out.bl.get (x := false) (by rw [List.getElem?_replicate, if_pos (by omega)])
  have R1 := Lib.hid (R0.out.set fr true)
  go_upto_region 1 with fail
  go_cut [5, 10, 11, 12, 13] (fun v _ _ _ _ wx => v = .slice (some ⟨g, 0, none⟩) n n ∧ wx = w2)
  case first =>
    clear hcf hc0
    go_wp2_with fail
    go_meet
    subst hg hw1 hw2
    exact ⟨by simp, by simp⟩
  case rest =>
    rw [← hbf]
    obtain ⟨rfl, rfl⟩ := hcut
    clear hmk hw1 hw2 hg hbf
    go_wp2_with fail
    go_loopg [6] (2 * n + 1) (fun gg mv wx => ∃ (mb : Bool) (on : List Bool), 2 * offs on + (if mb then 1 else 0) ≤ gg ∧ mv = .bool mb ∧ RchI W H s fr on ∧ (mb = false → RchC W H s on n) ∧ RcW (Flr.mk W H s) bf g w on wx)
    case atStart =>
      refine ⟨true, (List.replicate n false).set fr true, ?_, rfl, by have := ST.out; rwa [← HN.out] at this, by simp, R1.out⟩
      have := List.length_filter_le (fun x => !x) ((List.replicate n false).set fr true)
      unfold offs; simp at this ⊢; omega
    case round =>
      obtain ⟨mb, on, hgk, rfl, ri, rc, rw_⟩ := hrel
      have RI := Lib.hid ri; have RC := Lib.hid rc; have RW := Lib.hid rw_
      clear ri rc rw_
      cases mb with
      | false =>
        have HD := Lib.hid (RI.out.done (by have := RC.out rfl; rwa [HN.out] at this))
        have HL := Lib.hid RI.out.len
        have hnE := HN.out
        have HE := Lib.hid hnE
        clear hnE
        go_wp2_with fail
        go_ret
        exact ⟨g, on, by rw [← HE.out]; rfl, RW.out.bl, RW.out.lt.2, RW.out.bx.kp, HL.out, HD.out⟩
      | true =>
        have hgk2 : 2 * offs on < gk := by simp at hgk; omega
        obtain ⟨G, rfl⟩ : ∃ G : Nat, G = gk := ⟨_, rfl⟩
        have HG := Lib.hid hgk2
        clear hgk hgk2
        go_wp2_with fail
        obtain ⟨wo, rfl⟩ : ∃ wo : World, wo = wr := ⟨_, rfl⟩
        go_loopg [6, 7] (n + 1) (fun g2 mv iv wx => ∃ (i : Nat) (mb : Bool) (on : List Bool), g2 = n + 1 - i ∧ iv = .int .i64 i ∧ i ≤ n ∧ mv = .bool mb ∧ 2 * offs on + (if mb then 1 else 0) < G ∧ RchI W H s fr on ∧ (mb = false → RchC W H s on i) ∧ RcW (Flr.mk W H s) bf g w on wx)
        case atStart => exact ⟨0, false, on, rfl, rfl, by omega, rfl, by have := HG.out; simp; omega, RI.out, fun _ => RchC.zero, RW.out⟩
        case round =>
          clear HG RI RC RW
          obtain ⟨i, mb, on, hg2, rfl, hi, rfl, hG, ri, rc, rw_⟩ := hrel
          have RI := Lib.hid ri; have RC := Lib.hid rc; have RW := Lib.hid rw_; have HG := Lib.hid hG
          clear ri rc rw_ hG
          by_cases hlt : i < n
          · have hltI : (i : Int) < (n : Int) := by omega
            have hwi : IntKind.i64.wrap ((i : Int) + 1) = (i : Int) + 1 := IntWalk.i64_in _ (by omega)
            obtain ⟨b, hb⟩ : ∃ b, on[i]? = some b := ⟨_, List.getElem?_eq_getElem (by rw [RI.out.len, ← HN.out]; exact hlt)⟩
            have hcb : wr.cell? ⟨g, i, none⟩ = some (.bool b) := RW.out.bl.get hb
            have HB := Lib.hid hb
            cases b with
            | false =>
              have RC2 := Lib.hid (fun h => (RC.out h).off HB.out)
              clear hb hlt
              go_wp2_with fail
              go_roundg (n + 1 - (i + 1))
              case measure => omega
              case rel => exact ⟨i + 1, mb, on, rfl, by go_num, by omega, rfl, HG.out, RI.out, RC2.out, RW.out⟩
            | true =>
              have hiW : i < W * H := by have := HS.out; have := HN.out; omega
              have HIW := Lib.hid hiW
              have hb0 : wr.cell? ⟨bf, 0, none⟩ = some (.int .i64 (W : Int)) := RW.out.bx.c0
              have hb1 : wr.cell? ⟨bf, 1, none⟩ = some (.int .i64 (H : Int)) := RW.out.bx.c1
              have hb2 : wr.cell? ⟨bf, 2, none⟩ = some (.string s) := RW.out.bx.c2
              clear hb hlt hiW
              go_wp2_with fail
              refine (qbeside_any W H i s hW1 hW hH1 hH HIW.out wr).mono ?_
              rintro e w3 ⟨vB, rfl, nb⟩
              obtain ⟨AB, qB, rfl⟩ := nb.own.rd.shape
              rw [ints_len] at nb ⊢
              obtain ⟨nB, hnB⟩ : ∃ nB, nB = (besideP W H i).length := ⟨_, rfl⟩
              have hB4 : nB ≤ 4 := by rw [hnB]; exact besideP_len W H i
              rw [← hnB] at nb ⊢
              have HNB := Lib.hid hnB
              have R3 := Lib.hid (RW.out.no nb.kp); have OB := Lib.hid nb.own
              have NG := Lib.hid (show ∀ g', (Value.slice AB nB qB).ownBlock = some g' → g' ≠ g by
                intro g' hg'
                have := nb.ge g' hg'; have := RW.out.bl.lt; omega)
              clear nb hnB hb0 hb1 hb2 hcb
              go_wp2_with fail
              obtain ⟨wc, rfl⟩ : ∃ wc : World, wc = wr := ⟨_, rfl⟩
              go_loopg [6, 9] (nB + 1) (fun g3 mv jv wx => ∃ (j : Nat) (mb : Bool) (on : List Bool), g3 = nB + 1 - j ∧ jv = .int .i64 j ∧ j ≤ nB ∧ mv = .bool mb ∧ 2 * offs on + (if mb then 1 else 0) < G ∧ RchI W H s fr on ∧ on[i]? = some true ∧ (mb = false → RchC W H s on i ∧ RchD W H s on i j) ∧ RcW (Flr.mk W H s) bf g w on wx ∧ Own IK 3 wx (.slice AB nB qB) (ints (besideP W H i)))
              case atStart => exact ⟨0, mb, on, rfl, rfl, by omega, rfl, HG.out, RI.out, HB.out, fun h => ⟨RC.out h, RchD.zero⟩, R3.out, OB.out⟩
              case round =>
                clear RI RC RW HG HB R3 OB
                obtain ⟨j, mb, on, hg3, rfl, hj, rfl, hG, ri, hoi, rc, rw_, ob⟩ := hrel
                have RI := Lib.hid ri; have RC := Lib.hid rc; have RW := Lib.hid rw_; have HG := Lib.hid hG; have HOI := Lib.hid hoi; have OB := Lib.hid ob
                clear ri rc rw_ hG hoi ob
                by_cases hlt : j < nB
                · have hltI : (j : Int) < (nB : Int) := by omega
                  have hwj : IntKind.i64.wrap ((j : Int) + 1) = (j : Int) + 1 := IntWalk.i64_in _ (by omega)
                  obtain ⟨x, hx⟩ : ∃ x, (besideP W H i)[j]? = some x := ⟨_, List.getElem?_eq_getElem (by rw [← HNB.out]; exact hlt)⟩
                  have hxs : x < s.size := by rw [HS.out]; exact beside_lt hW1 HIW.out (List.mem_of_getElem? hx)
                  have hxsI : (x : Int) < ((s.size : Nat) : Int) := by omega
                  have hxn : (x : Int) < (n : Int) := by have := HN.out; omega
                  rcases OB.out.b with ⟨hv, _⟩ | ⟨gB, capB, hv, _, _, _⟩
                  · simp only [Value.slice.injEq] at hv; omega
                  simp only [Value.slice.injEq] at hv
                  obtain ⟨rfl, hzz, rfl⟩ := hv
                  clear hzz
                  have hgg : gB ≠ g := NG.out gB rfl
                  have hcb : wr.cell? ⟨gB, j, none⟩ = some (.int .i64 (x : Int)) := by have := OB.out.rd.intAt (ints_get hx); simpa using this
                  have hb2 : wr.cell? ⟨bf, 2, none⟩ = some (.string s) := RW.out.bx.c2
                  have hbt := bt_at s x
                  obtain ⟨B, hB⟩ : ∃ B, B = bt s x := ⟨_, rfl⟩
                  rw [← hB] at hbt
                  obtain ⟨t, ht⟩ : ∃ t, t = (kindB B == 2) := ⟨_, rfl⟩
                  have QL := Lib.hid (fun w => qlane_any B t ht w)
                  have HX := Lib.hid hx
                  have HT := Lib.hid (show t = true ↔ laneI s x by
                    rw [ht, hB]; simp; exact ⟨fun h => ⟨hxs, h⟩, fun h => h.2⟩)
                  obtain ⟨c, hc⟩ : ∃ c, on[x]? = some c := ⟨_, List.getElem?_eq_getElem (by rw [RI.out.len]; exact hxs)⟩
                  have hcx : wr.cell? ⟨g, x, none⟩ = some (.bool c) := RW.out.bl.get hc
                  have hcf : wr.frozen? ⟨g, x, none⟩ = false := RW.out.bl.free x
                  have HC := Lib.hid hc
                  have HGG := Lib.hid hgg
                  clear hx hB hlt hxs ht hc hgg
                  cases t with
                  | false =>
                    have RC2 := Lib.hid (fun h => And.intro (RC.out h).1 ((RC.out h).2.step HX.out (fun hl => absurd (HT.out.2 hl) (by simp))))
                    clear hcx hcf
                    go_wp2_with fail
                    go_quiet ((go_at_call 37; exact Calls.quiet_of_same (QL.out _)))
                    go_wp2_with fail
                    go_roundg (nB + 1 - (j + 1))
                    case measure => omega
                    case rel => exact ⟨j + 1, mb, on, rfl, by go_num, by omega, rfl, HG.out, RI.out, HOI.out, RC2.out, RW.out.no ((Kp.refl _ _).drewN _), OB.out.drewN _⟩
                  | true =>
                    cases c with
                    | true =>
                      have RC2 := Lib.hid (fun h => And.intro (RC.out h).1 ((RC.out h).2.step HX.out (fun _ => HC.out)))
                      go_wp2_with fail
                      go_quiet ((go_at_call 37; exact Calls.quiet_of_same (QL.out _)))
                      go_wp2_with fail
                      go_roundg (nB + 1 - (j + 1))
                      case measure => omega
                      case rel => exact ⟨j + 1, mb, on, rfl, by go_num, by omega, rfl, HG.out, RI.out, HOI.out, RC2.out, RW.out.no ((Kp.refl _ _).drewN _), OB.out.drewN _⟩
                    | false =>
                      have RI2 := Lib.hid (RI.out.put HOI.out HX.out (HT.out.1 rfl) HC.out)
                      have HO := Lib.hid (offs_set on x HC.out)
                      have HOI2 := Lib.hid (show (on.set x true)[i]? = some true by
                        rw [List.getElem?_set]; split
                        · rename_i e; subst e; have := HC.out; rw [HOI.out] at this; simp at this
                        · exact HOI.out)
                      have R2 := Lib.hid (fun k => (RW.out.no ((Kp.refl _ wr).drewN k)).set x true)
                      have O2 := Lib.hid (fun k => (OB.out.drewN k).kp ((Kp.refl (fun b => b = g) (wr.drewN k)).setCell (p := ⟨g, x, none⟩) (fun _ => rfl) (.bool true)) (fun g' hg' e => NG.out g' hg' e))
                      go_wp2_with fail
                      go_quiet ((go_at_call 37; exact Calls.quiet_of_same (QL.out _)))
                      go_wp2_with fail
                      go_roundg (nB + 1 - (j + 1))
                      case measure => omega
                      case rel => exact ⟨j + 1, true, _, rfl, by go_num, by omega, rfl, by have := HG.out; have := HO.out; split at * <;> simp <;> omega, RI2.out, HOI2.out, fun h => by simp at h, R2.out _, O2.out _⟩
                · obtain rfl : j = nB := by omega
                  have hd0 : ¬ (j : Int) < (j : Int) := by omega
                  have RC2 := Lib.hid (fun h => (RC.out h).1.onn (by rw [← HNB.out]; exact (RC.out h).2))
                  clear hlt
                  go_wp2_with fail
                  go_roundg (n + 1 - (i + 1))
                  case measure => omega
                  case rel => exact ⟨i + 1, mb, on, rfl, by go_num, by omega, rfl, HG.out, RI.out, RC2.out, RW.out⟩
          · obtain rfl : i = n := by omega
            have hd0 : ¬ (i : Int) < (i : Int) := by omega
            clear hlt
            go_wp2_with fail
            go_roundg (2 * offs on + (if mb then 1 else 0))
            case measure => exact HG.out
            case rel => exact ⟨mb, on, Nat.le_refl _, rfl, RI.out, RC.out, RW.out⟩
end Go.Proofs.YtolkkinophklcaaDoor
