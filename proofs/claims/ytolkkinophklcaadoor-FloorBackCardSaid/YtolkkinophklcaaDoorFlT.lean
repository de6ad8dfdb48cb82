/- floor.Parse. -/
import Derived.Test.YtolkkinophklcaaDoorFlS
import Derived.Test.YtolkkinophklcaaDoorFlJw
import Derived.Deep.RegionHeld3
import Derived.Deep.RegionLaw
import Derived.Deep.CutBlock
import Derived.Deep.DeepCutAuto
import Derived.Deep.Cut
import Derived.Deep.CutRange
namespace Go.Proofs.YtolkkinophklcaaDoor
set_option linter.unusedVariables false
set_option linter.unusedSimpArgs false
open Go.RowKit

theorem elSR : ElT Tryd.prog 42 9 SRK 16 := ElT.of (z := .string ByteArray.empty) (by kernel_rfl) (by kernel_rfl) rfl
theorem pcs_flat (l : List UInt8) : (pcs l).flatten.length ≤ l.length := by
  induction l with
  | nil => simp [pcs]
  | cons c l ih =>
    rw [pcs]
    split
    · simp; simp at ih; omega
    · split
      · simp
      · rename_i h; rw [h] at ih; simp at ih ⊢; omega
theorem flat_mem {L : List (List UInt8)} {p : List UInt8} (h : p ∈ L) : p.length ≤ L.flatten.length := by
  induction L with
  | nil => simp at h
  | cons a L ih =>
    rw [List.flatten_cons, List.length_append]
    rcases List.mem_cons.1 h with rfl | h
    · omega
    · have := ih h; omega
theorem join_nil (xs : List (List UInt8)) : Lib.join xs [] = xs.flatten := by
  unfold Lib.join
  induction xs with
  | nil => rfl
  | cons a xs ih =>
    rcases xs with _ | ⟨b, xs⟩
    · simp [List.intercalate]
    · rw [List.flatten_cons, ← ih]; simp [List.intercalate]
/-- The rows of a text: what the program reads, the first m of n1 pieces. -/
structure PrR (s : ByteArray) (R X : List ByteArray) (m n1 : Nat) : Prop where
  rows : X = rowsB s
  pre : ∃ Y, R = X ++ Y
  lm : m = X.length
  ln : n1 = R.length
  le : m ≤ n1
  n1le : n1 ≤ s.size + 1
  sz : ∀ (i : Nat) r, X[i]? = some r → r.size ≤ s.size
  flat : (X.map (·.data.toList)).flatten.length ≤ s.size
theorem prR (s : ByteArray) : ∃ L cur, pcs s.data.toList = L ++ [cur] ∧ ∃ X m, PrR s ((pcs s.data.toList).map mkB) X m (L.length + 1) ∧ m = if cur = [] then L.length else L.length + 1 := by
  obtain ⟨L, cur, h⟩ : ∃ L cur, pcs s.data.toList = L ++ [cur] := by
    exact ⟨_, _, (List.dropLast_concat_getLast (pcs_ne _)).symm⟩
  have hr := rowsL_of h
  have hf := pcs_flat s.data.toList
  have hn := pcs_lenle s.data.toList
  rw [← Lib.size_eq] at hf hn
  rw [h] at hf hn
  have key : ∀ (Z W2 : List (List UInt8)), L ++ [cur] = Z ++ W2 → rowsL s.data.toList = Z → PrR s ((L ++ [cur]).map mkB) (Z.map mkB) Z.length (L.length + 1) := by
    intro Z W2 h1 h2
    have hzf : Z.flatten.length ≤ s.size := by rw [h1] at hf; simp only [List.flatten_append, List.length_append] at hf; omega
    have hlen : L.length + 1 = Z.length + W2.length := by have := congrArg List.length h1; simpa using this
    refine ⟨by unfold rowsB; rw [h2], ⟨W2.map mkB, by rw [h1, List.map_append]⟩, by simp, by simp, by omega, by simp at hn; omega, fun i r hi => ?_, ?_⟩
    · rw [List.getElem?_map] at hi
      cases hz : Z[i]? with
      | none => rw [hz] at hi; simp at hi
      | some p =>
        rw [hz] at hi; simp at hi; subst hi
        rw [mkB_size]
        exact Nat.le_trans (flat_mem (List.mem_of_getElem? hz)) hzf
    · rw [List.map_map]
      have : ((fun x : ByteArray => x.data.toList) ∘ mkB) = id := by funext x; exact mkB_list x
      rw [this, List.map_id]; exact hzf
  refine ⟨L, cur, h, ?_⟩
  rw [h]
  by_cases hc : cur = []
  · rw [if_pos hc] at hr
    exact ⟨_, _, key L [cur] rfl hr, by rw [if_pos hc]⟩
  · rw [if_neg hc] at hr
    exact ⟨_, _, key (L ++ [cur]) [] (by simp) hr, by rw [if_neg hc]; simp⟩
theorem box_set {w : World} {b i : Nat} {cs : Array Value} {t : TypeId} (h : w.heap[b]? = some (.cells cs t (0, 0))) (hi : i < cs.size) (v : Value) : (w.setCell ⟨b, i, none⟩ v).cell? ⟨b, i, none⟩ = some v := by
  rw [blk_cell (blk_set h i v)]; simp [hi]
def ParseR (s : ByteArray) (w : World) (e : Ending) (w' : World) : Prop := e = .returned (PVal (parseP s)) ∧ Kp No w w'

set_option maxHeartbeats 2000000 in
set_option maxRecDepth 100000 in
theorem parse_any (s : ByteArray) (hs : s.size ≤ 1000000) (w : World) : Calls Tryd.prog 11 #[.string s] w (ParseR s w) := by
  unfold ParseR
  obtain ⟨V, hV⟩ : ∃ V, V = PVal (parseP s) := ⟨_, rfl⟩
  rw [← hV]
  have HV := Lib.hid hV
  clear hV
  obtain ⟨L, cur, hpc, X, m, pr, hm⟩ := prR s
  have SP := Lib.hid (splitS_any s (by omega))
  rw [hpc, List.length_append, List.length_singleton] at SP
  rw [hpc] at pr
  obtain ⟨R, hR⟩ : ∃ R, R = (L ++ [cur]).map mkB := ⟨_, rfl⟩
  rw [← hR] at SP pr
  have hRl : R[L.length]? = some (mkB cur) := by rw [hR]; simp
  obtain ⟨n1, hn1⟩ : ∃ n1, n1 = L.length + 1 := ⟨_, rfl⟩
  obtain ⟨n0, hn0⟩ : ∃ n0, n0 = L.length := ⟨_, rfl⟩
  rw [← hn1] at SP pr
  rw [← hn0] at hm hRl
  have h01 : n1 = n0 + 1 := by omega
  rw [← h01] at hm
  have hn1s : n1 ≤ 1000001 := by have := pr.n1le; omega
  have PR := Lib.hid pr
  have hle := pr.le
  obtain ⟨bF, hbF⟩ : ∃ bF, bF = w.heap.size := ⟨_, rfl⟩
  obtain ⟨br, hbr⟩ : ∃ br, br = w.heap.size + 1 := ⟨_, rfl⟩
  obtain ⟨w1, hw1⟩ : ∃ w1, w1 = w.alloc (.cells #[.int .i64 0, .int .i64 0, .string ⟨#[]⟩] 24) := ⟨_, rfl⟩
  obtain ⟨w2, hw2⟩ : ∃ w2, w2 = w1.alloc (.cells (rowsV R) 9) := ⟨_, rfl⟩
  have K2 := Lib.hid (show Kp No w w2 by rw [hw2, hw1]; exact ((Kp.refl _ _).alloc _).alloc _)
  have BF := Lib.hid (show w2.heap[bF]? = some (.cells #[.int .i64 0, .int .i64 0, .string ⟨#[]⟩] 24 (0, 0)) by rw [hw2, hw1, hbF]; exact blk_alloc (blk_new w _) _)
  have BR := Lib.hid (show w2.heap[br]? = some (.cells (rowsV R) 9 (0, 0)) by
    rw [hw2]
    have := blk_new w1 (.cells (rowsV R) 9)
    rw [hw1] at this ⊢
    rw [hbr]; simpa using this)
  have HLT := Lib.hid (show w.heap.size ≤ bF ∧ bF < br by omega)
  have hcR : ∀ (i : Nat) r, R[i]? = some r → w2.cell? ⟨br, i, none⟩ = some (.string r) := fun i r h => (blk_cell BR.out i).trans (by simp [rowsV, h])
  have HCR := Lib.hid hcR
  have HCX := Lib.hid (show ∀ (i : Nat) r, X[i]? = some r → w2.cell? ⟨br, i, none⟩ = some (.string r) from fun i r h => hcR i r (by
    obtain ⟨Y, hY⟩ := PR.out.pre
    rw [hY, List.getElem?_append_left (List.getElem?_eq_some_iff.1 h).1]; exact h))
  have hlast := hcR n0 _ hRl
  have hsub : IntKind.i64.wrap ((n1 : Int) - 1) = (n0 : Int) := by rw [IntWalk.i64_in _ (by omega)]; omega
  have hsub2 : (n1 : Int) - 1 = (n0 : Int) := by omega
  have hn01 : (n0 : Int) < (n1 : Int) := by omega
  have HC1 := Lib.hid (show w1.heap.size = br by rw [hw1, hbr]; simp)
  have hsl := fun w => run_slice_hi elSR br 0 n1 n1 n0 (by omega) (n0 : Int) rfl w
  have SPw := SP.out w1
  rw [HC1.out, ← hw2] at SPw
  have HSPw := Lib.hid SPw
  have hmn : m ≤ 1000001 := by omega
  have HW1 := Lib.hid hw1
  obtain ⟨em, hem⟩ : ∃ em, (mkB cur).toList.isEmpty = em := ⟨_, rfl⟩
  have HMN := Lib.hid (show m = if em = true then n0 else n1 by
    rw [hm, ← hem, Lib.toList_data, mkB_list]
    cases cur <;> simp)
  subst hbF
  clear hcR hRl hR hn1 hn0 hpc pr SP SPw hm hbr hw1 hw2 h01
  go_enter Tryd.func11, Tryd.ntmps11
  go_upto_if 17 with (go_at_call 28; go_loud (rw [← HW1.out]; refine HSPw.out.mono ?_; rintro e wz ⟨rfl, hwz⟩; rw [hwz]; clear hwz))
  go_cut [5, 11, 12, 13, 14, 15, 16, 17, 18, 19, 20, 21, 22] (fun v _ _ _ _ _ _ _ _ _ _ _ _ wx => v = .slice (some ⟨br, 0, none⟩) m n1 ∧ wx = w2)
  case first =>
    cases em with
    | true =>
      have HMM := Lib.hid (show m = n0 from HMN.out)
      go_wp2_with fail
      go_meet
      exact ⟨by rw [HMM.out], rfl⟩
    | false =>
      have HMM := Lib.hid (show m = n1 from HMN.out)
      go_wp2_with fail
      go_meet
      exact ⟨by rw [HMM.out], rfl⟩
  case rest =>
    obtain ⟨rfl, hcw⟩ := hcut
    rw [hcw]
    clear hcw
    clear hsl hlast hsub hsub2 hn01 hem
    go_wp2_with fail
    have hf0 : w2.frozen? ⟨w.heap.size, 0, none⟩ = false := blk_free BF.out 0
    have hf1 : w2.frozen? ⟨w.heap.size, 1, none⟩ = false := blk_free BF.out 1
    have hf2 : w2.frozen? ⟨w.heap.size, 2, none⟩ = false := blk_free BF.out 2
    have hs0 := fun v => box_set (i := 0) BF.out (by decide) v
    have hs1 := fun v0 v => box_set (i := 1) (blk_set BF.out 0 v0) (by simp) v
    have hs2 := fun v0 v1 v => box_set (i := 2) (blk_set (blk_set BF.out 0 v0) 1 v1) (by simp) v
    have hg0 : w2.cell? ⟨w.heap.size, 0, none⟩ = some (.int .i64 0) := blk_cell BF.out 0
    have hg1 : w2.cell? ⟨w.heap.size, 1, none⟩ = some (.int .i64 0) := blk_cell BF.out 1
    have hg2 : w2.cell? ⟨w.heap.size, 2, none⟩ = some (.string ⟨#[]⟩) := blk_cell BF.out 2
    go_loopg [25] (m + 1) (fun g2 kk wr => ∃ k : Nat, g2 = m + 1 - k ∧ kk = .int .i64 k ∧ k ≤ m ∧ (∀ (i : Nat) r f, i < k → X[i]? = some r → X[0]? = some f → mayB r f i = true) ∧ wr = w2)
    case atStart => exact ⟨0, rfl, rfl, by omega, fun i r f hi => by omega, rfl⟩
    case round =>
      obtain ⟨k, hgk, rfl, hk, hz, rfl⟩ := hrel
      have HZ := Lib.hid hz
      clear hz
      by_cases hlt : k < m
      · have hltI : (k : Int) < (m : Int) := by omega
        have hwk : IntKind.i64.wrap ((k : Int) + 1) = (k : Int) + 1 := IntWalk.i64_in _ (by omega)
        obtain ⟨r, hr⟩ : ∃ r, X[k]? = some r := ⟨_, List.getElem?_eq_getElem (by rw [← PR.out.lm]; exact hlt)⟩
        obtain ⟨f, hf⟩ : ∃ f, X[0]? = some f := ⟨_, List.getElem?_eq_getElem (by rw [← PR.out.lm]; omega)⟩
        have hcr := HCX.out k r hr
        have hcf := HCX.out 0 f hf
        have hm0 : (0 : Nat) < m := by omega
        obtain ⟨b, hb⟩ : ∃ b, mayB r f k = b := ⟨_, rfl⟩
        have hmy := may_any r f k (by have := PR.out.sz k r hr; omega) (by have := PR.out.sz 0 f hf; omega) (by omega) wr
        rw [hb] at hmy
        have HMY := Lib.hid hmy
        have HB := Lib.hid hb; have HRR := Lib.hid hr; have HFF := Lib.hid hf
        clear hmy hb hr hf hlt
        cases b with
        | false =>
          have HE := Lib.hid (show V = .tuple #[.agg #[.int .i64 0, .int .i64 0, .string ⟨#[]⟩], .int .i64 (k : Int), .int .i64 30] by
            rw [HV.out]
            have hb := badRow_some HRR.out HFF.out HB.out (fun i r hi hr => HZ.out i r f hi hr HFF.out)
            unfold parseP
            rw [← PR.out.rows, hb]; rfl)
          have KE := Lib.hid (fun (v0 v1 v2 : Value) => show Kp No w (((wr.setCell ⟨w.heap.size, 0, none⟩ v0).setCell ⟨w.heap.size, 1, none⟩ v1).setCell ⟨w.heap.size, 2, none⟩ v2) from
            ((K2.out.setCell (fun e => by have e : w.heap.size < w.heap.size := e; have := HLT.out; omega) _).setCell (fun e => by have e : w.heap.size < w.heap.size := e; have := HLT.out; omega) _).setCell (fun e => by have e : w.heap.size < w.heap.size := e; have := HLT.out; omega) _)
          clear HZ
          go_wp2_with (go_at_call 29; refine HMY.out.mono ?_; rintro e wz ⟨rfl, hwz⟩; rw [hwz]; clear hwz)
          exact bodyPost_ret (v := .tuple #[.agg #[.int .i64 0, .int .i64 0, .string ⟨#[]⟩], .int .i64 (k : Int), .int .i64 30]) (by simp [results, Tryd.results11, go_sem, hs0, hs1, hs2]) rfl ⟨by rw [HE.out], KE.out _ _ _⟩
        | true =>
          have HZ2 := Lib.hid (show ∀ (i : Nat) r f, i < k + 1 → X[i]? = some r → X[0]? = some f → mayB r f i = true by
            intro i r' f' hi hr hf
            rcases Nat.lt_or_ge i k with h | h
            · exact HZ.out i r' f' h hr hf
            · obtain rfl : i = k := by omega
              have e1 := HRR.out; have e2 := HFF.out
              rw [hr] at e1; rw [hf] at e2
              cases e1; cases e2
              exact HB.out)
          clear HZ
          go_wp2_with (go_at_call 29; refine HMY.out.mono ?_; rintro e wz ⟨rfl, hwz⟩; rw [hwz]; clear hwz)
          go_roundg (m + 1 - (k + 1))
          case measure => omega
          case rel => exact ⟨k + 1, rfl, by go_num, by omega, HZ2.out, rfl⟩
      · obtain rfl : k = m := by omega
        have hd0 : ¬ (k : Int) < (k : Int) := by omega
        have KE := Lib.hid (fun (w2 : World) (hk : Kp No w w2) (v0 v1 v2 : Value) => show Kp No w (((w2.setCell ⟨w.heap.size, 0, none⟩ v0).setCell ⟨w.heap.size, 1, none⟩ v1).setCell ⟨w.heap.size, 2, none⟩ v2) from
            ((hk.setCell (fun e => by have e : w.heap.size < w.heap.size := e; have := HLT.out; omega) _).setCell (fun e => by have e : w.heap.size < w.heap.size := e; have := HLT.out; omega) _).setCell (fun e => by have e : w.heap.size < w.heap.size := e; have := HLT.out; omega) _)
        clear hlt
        by_cases h0 : k = 0
        · have h0b : ((k : Int) == 0) = true := by simp [h0]
          have HE := Lib.hid (show V = .tuple #[.agg #[.int .i64 0, .int .i64 0, .string ⟨#[]⟩], .int .i64 0, .int .i64 30] by
            rw [HV.out]
            have hX : X = [] := List.eq_nil_of_length_eq_zero (by rw [← PR.out.lm]; exact h0)
            unfold parseP
            rw [← PR.out.rows, hX]
            show PVal (if rightB ⟨0, 0, joinB []⟩ = true then _ else _) = _
            rw [if_neg (by rw [rightB_f (fun r => by have := r.w1; simp at this)]; simp)]; rfl)
          clear h0
          go_wp2_with fail
          exact bodyPost_ret (v := .tuple #[.agg #[.int .i64 0, .int .i64 0, .string ⟨#[]⟩], .int .i64 0, .int .i64 30]) (by simp [results, Tryd.results11, go_sem, hs0, hs1, hs2]) rfl ⟨by rw [HE.out], KE.out _ K2.out _ _ _⟩
        · have h0b : ((k : Int) == 0) = false := by simp; omega
          obtain ⟨f, hf⟩ : ∃ f, X[0]? = some f := ⟨_, List.getElem?_eq_getElem (by rw [← PR.out.lm]; omega)⟩
          have hcf := HCX.out 0 f hf
          have hm0 : (0 : Nat) < k := by omega
          have hfs := PR.out.sz 0 f hf
          obtain ⟨q, hq⟩ : ∃ q, q = f.size := ⟨_, rfl⟩
          have hqI : ((f.size : Nat) : Int) = (q : Int) := by omega
          have HQ := Lib.hid hq
          have HN := Lib.hid (show badRow (rowsB s) = none by
            rw [← PR.out.rows]
            exact badRow_none hf (fun i r hi hr => HZ.out i r f (by rw [PR.out.lm]; exact hi) hr hf))
          obtain ⟨F, hF⟩ : ∃ F : Flr, F = ⟨(q : Int), (k : Int), joinB X⟩ := ⟨_, rfl⟩
          have HP := Lib.hid (show parseP s = if rightB F = true then (F, 0, 0) else (Flr.zero, k, 30) by
            unfold parseP
            rw [HN.out, hF, ← PR.out.rows, ← PR.out.lm]
            have : X.getD 0 ByteArray.empty = f := by simp [hf]
            rw [this, ← hq])
          have JN := Lib.hid (fun (wx : World) (hk : Kp No wr wx) => show Calls Tryd.prog 30 #[.slice (some ⟨br, 0, none⟩) k n1, .string ⟨#[]⟩] wx fun e w' => e = .returned (.string (joinB X)) ∧ Kp No wx w' ∧ Kp No wr w' from by
            have h := Tryd.strings_Join br 0 n1 X ⟨#[]⟩ wx (fun j x hx => by rw [Nat.zero_add]; exact hk.cellS (HCX.out j x hx) (no_no _)) (Nat.lt_of_lt_of_le (lt_of_block BR.out) hk.size) (by rw [← PR.out.lm]; omega) (by rw [← PR.out.lm]; omega) (by
              rw [show (ByteArray.mk #[]).data.toList = [] from rfl, join_nil]
              have := PR.out.flat; omega)
            rw [show (ByteArray.mk #[]).data.toList = [] from rfl, join_nil, ← PR.out.lm] at h
            exact h.mono fun e w' ⟨he, hb⟩ => ⟨he, Kp.ofBelow hb, hk.no (Kp.ofBelow hb)⟩)
          obtain ⟨S, hS⟩ : ∃ S, S = joinB X := ⟨_, rfl⟩
          rw [← hS] at JN hF
          have HF := Lib.hid hF
          have hSs : S.size ≤ 1000001 := by rw [hS]; unfold joinB; rw [mkB_size]; exact Nat.le_trans PR.out.flat (by omega)
          clear hf hq hfs h0 hF HN hS
          go_upto_region 12 with fail
          go_cut [8, 44, 45, 46, 47, 48, 49, 50, 51, 52] (fun t8 _ _ _ _ _ _ _ _ _ wx => ∃ b8, t8 = .pointer (some ⟨b8, 0, none⟩) ∧ wx.heap[b8]? = some (.cells #[.int .i64 (q : Int), .int .i64 (k : Int), .string S] 24 (0, 0)) ∧ Kp No wr wx ∧ b8 ≠ w.heap.size)
          case first =>
            have hcfa := fun o => ((Kp.refl No wr).alloc o).cellS hcf (no_no _)
            go_region_law (go_simp; go_at_call 30; refine (JN.out _ (by first | exact (Kp.refl _ _).drew | exact ((Kp.refl _ _).alloc _).drew | exact ((Kp.refl _ _).drew).alloc _)).mono ?_; rintro e w3 ⟨rfl, k3, k4⟩; have c3 := k4.cellS hcf (no_no _); have c3a := fun o => ((Kp.refl No w3).alloc o).cellS c3 (no_no _); have hz := k4.size; (first | (have z8 := k3.blk (g := wr.heap.size) (blk_new wr _) (no_no _); have y0 := blk_cell z8 0; have y1 := blk_cell z8 1; have y2 := blk_cell z8 2; have f0 := blk_free z8 0; have f1 := blk_free z8 1; have f2 := blk_free z8 2; have Z8 := Lib.hid z8; clear z8; simp at y0 y1 y2) | skip); have K3 := Lib.hid k3; have K4 := Lib.hid k4; clear k3 k4)
            all_goals
              have hbl := lt_of_block BF.out
              clear hcfa
              go_wp2_with fail
              go_meet
              first
              | exact ⟨_, rfl, blk_new w3 _, K4.out.alloc _, by omega⟩
              | exact ⟨_, rfl, by have := blk_set (blk_set (blk_set Z8.out 0 (.int .i64 (q : Int))) 1 (.int .i64 (k : Int))) 2 (.string S); simpa using this, ((K4.out.setCell (fun e => absurd e (Nat.lt_irrefl _)) _).setCell (fun e => absurd e (Nat.lt_irrefl _)) _).setCell (fun e => absurd e (Nat.lt_irrefl _)) _, by omega⟩
          case rest =>
            obtain ⟨b8, rfl, hbx, kx, hne⟩ := hcut
            have KX := Lib.hid kx
            have hx0 := blk_cell hbx 0
            have hx1 := blk_cell hbx 1
            have hx2 := blk_cell hbx 2
            simp at hx0 hx1 hx2
            have HBX := Lib.hid hbx; have HNE := Lib.hid hne
            clear kx hbx hne hf0 hf1 hf2 hg0 hg1 hg2 hs0 hs1 hs2 hcf
            obtain ⟨t, ht⟩ : ∃ t, rightB ⟨(q : Int), (k : Int), S⟩ = t := ⟨_, rfl⟩
            have HRT := Lib.hid (right_at ⟨(q : Int), (k : Int), S⟩ (by show S.size ≤ _; omega) t ht)
            have HT := Lib.hid ht
            clear ht
            go_wp2_with fail
            refine (HRT.out _).mono ?_
            rintro e w5 ⟨rfl, k5⟩
            have K5 := Lib.hid (K2.out.no (KX.out.no k5))
            have BF5 := Lib.hid ((KX.out.no k5).blk BF.out (no_no _))
            have hf0 : w5.frozen? ⟨w.heap.size, 0, none⟩ = false := blk_free BF5.out 0
            have hf1 : w5.frozen? ⟨w.heap.size, 1, none⟩ = false := blk_free BF5.out 1
            have hf2 : w5.frozen? ⟨w.heap.size, 2, none⟩ = false := blk_free BF5.out 2
            have hg0 : w5.cell? ⟨w.heap.size, 0, none⟩ = some (.int .i64 0) := blk_cell BF5.out 0
            have hg1 : w5.cell? ⟨w.heap.size, 1, none⟩ = some (.int .i64 0) := blk_cell BF5.out 1
            have hg2 : w5.cell? ⟨w.heap.size, 2, none⟩ = some (.string ⟨#[]⟩) := blk_cell BF5.out 2
            have hs0 := fun v => box_set (i := 0) BF5.out (by decide) v
            have hs1 := fun v0 v => box_set (i := 1) (blk_set BF5.out 0 v0) (by simp) v
            have hs2 := fun v0 v1 v => box_set (i := 2) (blk_set (blk_set BF5.out 0 v0) 1 v1) (by simp) v
            have hy := k5.blk HBX.out (no_no _)
            have hy0 := blk_cell hy 0
            have hy1 := blk_cell hy 1
            have hy2 := blk_cell hy 2
            simp at hy0 hy1 hy2
            clear hx0 hx1 hx2 k5 hy
            cases t with
            | true =>
              have HE := Lib.hid (show V = .tuple #[.agg #[.int .i64 (q : Int), .int .i64 (k : Int), .string S], .int .i64 0, .int .i64 0] by
                rw [HV.out, HP.out, HF.out, if_pos HT.out]; rfl)
              go_wp2_with fail
              exact bodyPost_ret (v := .tuple #[.agg #[.int .i64 (q : Int), .int .i64 (k : Int), .string S], .int .i64 0, .int .i64 0]) (by simp [results, Tryd.results11, go_sem, hs0, hs1, hs2]) rfl ⟨by rw [HE.out], KE.out _ K5.out _ _ _⟩
            | false =>
              have HE := Lib.hid (show V = .tuple #[.agg #[.int .i64 0, .int .i64 0, .string ⟨#[]⟩], .int .i64 (k : Int), .int .i64 30] by
                rw [HV.out, HP.out, HF.out, if_neg (by rw [HT.out]; simp)]; rfl)
              go_wp2_with fail
              exact bodyPost_ret (v := .tuple #[.agg #[.int .i64 0, .int .i64 0, .string ⟨#[]⟩], .int .i64 (k : Int), .int .i64 30]) (by simp [results, Tryd.results11, go_sem, hs0, hs1, hs2]) rfl ⟨by rw [HE.out], KE.out _ K5.out _ _ _⟩
end Go.Proofs.YtolkkinophklcaaDoor
