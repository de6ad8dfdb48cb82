/- Free. -/
import Derived.Test.YtihnbgokkhbjnaaWinD
namespace Go.Proofs.Ytihnbgokkhbjnaa
set_option linter.unusedVariables false
set_option linter.unusedSimpArgs false
open Go.RowKit

def fstep (s : List (Int × Int) × Int) (x : Int × Int) : List (Int × Int) × Int := (if s.2 < x.1 then s.1 ++ [(s.2, x.1)] else s.1, x.2)
def fpre (l : List (Int × Int)) : List (Int × Int) × Int := l.foldl fstep ([], 0)
def freeL (l : List (Int × Int)) : List (Int × Int) := if (fpre l).2 < 1048576 then (fpre l).1 ++ [((fpre l).2, 1048576)] else (fpre l).1

theorem fpre_snoc (l : List (Int × Int)) (k : Nat) (x : Int × Int) (h : l[k]? = some x) : fpre (l.take (k + 1)) = fstep (fpre (l.take k)) x := by
  rw [List.take_add_one, h]
  simp [fpre]
theorem fpre_len (l : List (Int × Int)) : (fpre l).1.length ≤ l.length := by
  have : ∀ (l : List (Int × Int)) (s : List (Int × Int) × Int), (l.foldl fstep s).1.length ≤ s.1.length + l.length := by
    intro l
    induction l with
    | nil => intro s; simp
    | cons x l ih =>
      intro s
      have := ih (fstep s x)
      have h2 : (fstep s x).1.length ≤ s.1.length + 1 := by simp only [fstep]; split <;> simp
      simp only [List.foldl_cons, List.length_cons]
      omega
  have := this l ([], 0)
  simpa [fpre] using this

theorem own_append_ne {n : Nat} {v v' : Value} {b : Nat} (h : ∀ g, v'.ownBlock = some g → v.ownBlock = some g ∨ n ≤ g) (hv : v.ownBlock ≠ some b) (hb : b < n) : v'.ownBlock ≠ some b := by
  intro e
  rcases h b e with h | h
  · exact hv h
  · omega

set_option maxRecDepth 100000 in
theorem free_any {w : World} {bt : Nat} {T : Int → List (Int × Int)} {F : Nat → Prop} (h : RepT w bt T F) (hT : WFT T) (c : Int) :
    Calls Try.prog 13 #[.pointer (some ⟨bt, 0, none⟩), .int .i64 c] w (RetNew WK 23 (freeL (T c)) w) := by
  have HT := Lib.hid hT
  have HR := Lib.hid h
  have hk2 : Kp No w (w.alloc (.cells #[.int .i64 0, .int .i64 1048576] 23)) := (Kp.refl _ _).alloc _
  have h2 := h.kpNo hk2
  obtain ⟨bm, v, q1, q2, q3, q4, q5⟩ := h2.at c
  have q2 := q2 0
  change Sem.run _ _ (w.alloc _) = .ok v (w.alloc _) at q2
  obtain ⟨A, cap, rfl⟩ := q3.rd.shape
  have H := Lib.hid q3.rd
  have hln := (hT c).len
  have HGL := Lib.hid (fun g hg => h.lt.2 g (q4 g hg))
  clear h hT h2 hk2 q3 q4 q5
  go_enter Try.func13, Try.ntmps13
  go_wp2
  go_loopw [5, 8, 19] (fun o _ i wr => ∃ k : Nat, i = .int .i64 k ∧ k ≤ (T c).length ∧ Own WK 23 wr o (fpre ((T c).take k)).1 ∧ o.ownBlock ≠ some w.heap.size ∧ (∀ g, o.ownBlock = some g → w.heap.size ≤ g) ∧ wr.heap[w.heap.size]? = some (.cells #[.int .i64 (fpre ((T c).take k)).2, .int .i64 1048576] 23 (0, 0)) ∧ Kp No w wr ∧ Rd WK wr (.slice A (T c).length cap) (T c)) (fun _ _ i _ => (T c).length - (intOf i).toNat)
  case atStart => exact ⟨0, rfl, by omega, Own.nil _ _ _, by simp [Value.ownBlock], by simp [Value.ownBlock], by simpa [fpre] using blk_new w _, (Kp.refl _ _).alloc _, H.out⟩
  case round =>
    obtain ⟨k, rfl, hk, ho, hne, hge, hb, hK, hrd⟩ := hrel
    have hfl := fpre_len ((T c).take k)
    have hfl2 : ((T c).take k).length ≤ k := by simp; omega
    have hwl : w.heap.size < wr.heap.size := lt_of_block hb
    by_cases hlt : k < (T c).length
    · obtain ⟨x, hx⟩ : ∃ x, (T c)[k]? = some x := ⟨_, List.getElem?_eq_getElem hlt⟩
      have hsn := fpre_snoc (T c) k x hx
      have HRD := Lib.hid hrd
      rcases hrd with ⟨hv, he⟩ | ⟨g, o, cap', hv, _⟩
      · rw [he] at hlt; simp at hlt
      simp only [Value.slice.injEq] at hv
      obtain ⟨rfl, _, rfl⟩ := hv
      obtain ⟨hc1, hc2⟩ := HRD.out.winAt hx
      generalize hs : fpre ((T c).take k) = s at *
      obtain ⟨sl, sf⟩ := s
      simp only at hfl
      have hb1 := (blk_cell hb 0).trans rfl
      have hb2 := (blk_cell hb 1).trans rfl
      have hbf := blk_free hb 0
      have HO := Lib.hid ho; have HN := Lib.hid hne; have HG := Lib.hid hge; have HB := Lib.hid hb; have HK := Lib.hid hK; have HSN := Lib.hid hsn
      have hltI : (k : Int) < ((T c).length : Int) := by omega
      simp only [List.getElem?_toArray, List.getElem?_cons_zero, List.getElem?_cons_succ] at hb1 hb2
      clear ho hne hge hb hK hsn hs hx hlt
      by_cases hgt : sf < x.1
      · go_wp2_with (at_builtin; refine wpl_append elW rfl (.tmp 28) (.tmp 34) rfl rfl rfl (l := sl) (m := [(sf, x.1)]) ?c1 ?c2 ?c3 ?c4 ?c5)
        case c1 => exact HO.out.alloc _ |>.alloc _
        case c2 => exact Rd.litAt WK 23 _ _ [(sf, x.1)] rfl (by unfold maxLen; simp) _ _ (by simp) rfl
        case c3 => show sl.length + 1 ≤ maxLen; unfold maxLen; omega
        case c4 => show (sl.length + 1) * 16 ≤ _; omega
        case c5 =>
          intro v' w' k1 k2 k3
          have hB2 : w'.heap[w.heap.size]? = some (.cells #[.int .i64 sf, .int .i64 1048576] 23 (0, 0)) := k2.blk (blk_alloc (blk_alloc HB.out _) _) HN.out
          have K1 := Lib.hid k1; have K2 := Lib.hid k2; have K3 := Lib.hid k3; have HB2 := Lib.hid hB2
          have hbf2 := blk_free hB2 0
          have hbc2 := (blk_cell hB2 0).trans rfl
          have hx2 : w'.cell? ⟨wr.heap.size, 1, none⟩ = some (.int .i64 x.2) := by
            refine k2.cellS ((blk_cell (blk_alloc (blk_new wr (.cells #[.int .i64 x.1, .int .i64 x.2] 23)) _) 1).trans rfl) ?_
            intro e; exact absurd (HO.out.lt e) (Nat.lt_irrefl _)
          clear k1 k2 k3 hB2
          simp only [List.getElem?_toArray, List.getElem?_cons_zero, List.getElem?_cons_succ] at hbc2
          go_wp2
          go_roundw
          case rel =>
            have hne' : v'.ownBlock ≠ some w.heap.size := own_append_ne K3.out HN.out (by omega)
            refine ⟨k + 1, by go_num, by omega, ?_, hne', ?_, ?_, ?_, ?_⟩
            · rw [HSN.out]; simp only [fstep, if_pos hgt]
              exact K1.out.kp ((Kp.refl (fun j => j = w.heap.size) w').setCell (fun _ => rfl) _) (fun j hj e => hne' (e ▸ hj))
            · intro j hj
              rcases K3.out j hj with e | e
              · exact HG.out j e
              · omega
            · rw [HSN.out]; simpa [fstep] using blk_set HB2.out 0 (.int .i64 x.2)
            · refine (((HK.out.alloc _).alloc _).trans' K2.out ?_).trans' ((Kp.refl (fun j => j = w.heap.size) w').setCell (fun _ => rfl) _) ?_
              · intro j hj e; have := HG.out j e; omega
              · intro j hj e; omega
            · refine (((HRD.out.alloc _).alloc _).kp K2.out ?_).kp ((Kp.refl (fun j => j = w.heap.size) w').setCell (fun _ => rfl) _) ?_
              · intro j hj e; have := HGL.out j hj; have := HG.out j e; omega
              · intro j hj e; have := HGL.out j hj; omega
          case measure => simp [intOf]; omega
      · go_wp2
        go_roundw
        case rel =>
          refine ⟨k + 1, by go_num, by omega, ?_, HN.out, HG.out, ?_, ?_, ?_⟩
          · rw [HSN.out]; simp only [fstep, if_neg hgt]
            exact (HO.out.kp ((Kp.refl (fun j => j = w.heap.size) wr).setCell (fun _ => rfl) _) (fun j hj e => HN.out (e ▸ hj))).alloc _
          · rw [HSN.out]; exact blk_alloc (by simpa [fstep] using blk_set HB.out 0 (.int .i64 x.2)) _
          · exact ((HK.out.trans' ((Kp.refl (fun j => j = w.heap.size) wr).setCell (fun _ => rfl) _) (fun j hj e => by omega)).alloc _)
          · exact (HRD.out.kp ((Kp.refl (fun j => j = w.heap.size) wr).setCell (fun _ => rfl) _) (fun j hj e => by have := HGL.out j hj; omega)).alloc _
        case measure => simp [intOf]; omega
    · obtain rfl : k = (T c).length := by omega
      rw [List.take_length] at *
      have hfr : freeL (T c) = if (fpre (T c)).2 < 1048576 then (fpre (T c)).1 ++ [((fpre (T c)).2, 1048576)] else (fpre (T c)).1 := rfl
      generalize hs : fpre (T c) = s at *
      obtain ⟨sl, sf⟩ := s
      simp only at hfl
      have hb1 := (blk_cell hb 0).trans rfl
      have hb2 := (blk_cell hb 1).trans rfl
      have HO := Lib.hid ho; have HN := Lib.hid hne; have HG := Lib.hid hge; have HB := Lib.hid hb; have HK := Lib.hid hK; have HRD := Lib.hid hrd
      simp only [List.getElem?_toArray, List.getElem?_cons_zero, List.getElem?_cons_succ] at hb1 hb2
      have hge0 : ¬ ((T c).length : Int) < ((T c).length : Int) := by omega
      have HFR := Lib.hid hfr
      clear ho hne hge hb hK hrd hs hfr hlt
      by_cases hgt : sf < 1048576
      · have hfr2 := Lib.hid (HFR.out.trans (if_pos hgt))
        go_wp2_with (at_builtin; refine wpl_append elW rfl (.tmp 45) (.tmp 47) rfl rfl rfl (l := sl) (m := [(sf, 1048576)]) ?c1 ?c2 ?c3 ?c4 ?c5)
        case c1 => exact HO.out.alloc _
        case c2 => exact Rd.litAt WK 23 _ _ [(sf, 1048576)] rfl (by unfold maxLen; simp) _ _ rfl rfl
        case c3 => show sl.length + 1 ≤ maxLen; unfold maxLen; omega
        case c4 => show (sl.length + 1) * 16 ≤ _; omega
        case c5 =>
          intro v' w' k1 k2 k3
          have K1 := Lib.hid k1; have K2 := Lib.hid k2; have K3 := Lib.hid k3
          clear k1 k2 k3
          go_wp2
          go_ret
          refine ⟨_, rfl, by rw [hfr2.out]; exact K1.out, ((HK.out.alloc _).trans' K2.out fun j hj e => ?_), fun j hj => ?_⟩
          · have := HG.out j e; omega
          · rcases K3.out j hj with e | e
            · exact HG.out j e
            · omega
      · have hfr2 := Lib.hid (HFR.out.trans (if_neg hgt))
        go_wp2
        go_ret
        exact ⟨_, rfl, by rw [hfr2.out]; exact HO.out, HK.out, HG.out⟩
end Go.Proofs.Ytihnbgokkhbjnaa
