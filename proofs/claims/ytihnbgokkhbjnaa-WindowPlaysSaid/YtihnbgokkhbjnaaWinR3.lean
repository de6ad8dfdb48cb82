/- The document's table (carfaxref06): Forget, Drop. -/
import Derived.Test.YtihnbgokkhbjnaaWinR2
namespace Go.Proofs.Ytihnbgokkhbjnaa
set_option linter.unusedVariables false
set_option linter.unusedSimpArgs false
open Go.RowKit

section
variable {α : Type} {K : Kd α} {P : Program} {t e : TypeId} {bytes : Nat}
/-- 's[:hi]', as a list. -/
theorem Rd.upto (E : ElT P t e K bytes) {w : World} {v : Value} {l : List α} (h : Rd K w v l) (p : Nat) (hp : p ≤ l.length) (x : Int) (hx : x = p) :
    ∃ v2, (∀ w', (Instr.slice t v none (some (.int .i64 x)) none).run P w' = .ok v2 w') ∧ Rd K w v2 (l.take p) ∧ (∀ g, v2.ownBlock = some g → v.ownBlock = some g) := by
  rcases h with ⟨rfl, rfl⟩ | ⟨g, o, cap, rfl, h1, h2, h3⟩
  · obtain rfl : p = 0 := by simpa using hp
    subst hx
    exact ⟨_, fun w' => run_slice_nil_hi E w', by simpa using Rd.nil K w, fun g hg => hg⟩
  · refine ⟨_, run_slice_hi E g o l.length cap p (by omega) x hx, .inr ⟨g, o, cap, by simp [Nat.min_eq_left hp], by simp; omega, h2, fun j u hu => ?_⟩, fun g' hg' => hg'⟩
    rw [← K.encs_take, List.getElem?_take] at hu
    split at hu
    · exact h3 j u hu
    · exact absurd hu (by simp)

/-- v reads as l, and lies in memory that is newer than w0. -/
structure NewS (K : Kd α) (e : TypeId) (w0 w : World) (v : Value) (l : List α) : Prop where
  own : Own K e w v l
  ge : ∀ g, v.ownBlock = some g → w0.heap.size ≤ g
  kp : Kp No w0 w
theorem NewS.nil (K : Kd α) (e : TypeId) (w : World) : NewS K e w w (.slice none 0 0) [] := ⟨Own.nil _ _ _, by simp [Value.ownBlock], Kp.refl _ _⟩
theorem NewS.kpNo {w0 w w' : World} {v : Value} {l : List α} (h : NewS K e w0 w v l) (hk : Kp No w w') : NewS K e w0 w' v l := ⟨h.own.kpNo hk, h.ge, h.kp.no hk⟩
theorem NewS.alloc {w0 w : World} {v : Value} {l : List α} (h : NewS K e w0 w v l) (o : Obj) : NewS K e w0 (w.alloc o) v l := h.kpNo ((Kp.refl _ _).alloc _)
theorem NewS.app {w0 w w1 w' : World} {v v' : Value} {l l' : List α} {n : Nat} (h : NewS K e w0 w v l) (hk : Kp No w w1) (k1 : Own K e w' v' l') (k2 : Kp (fun k => v.ownBlock = some k) w1 w') (k3 : ∀ g, v'.ownBlock = some g → v.ownBlock = some g ∨ n ≤ g) (hn : w.heap.size ≤ n) : NewS K e w0 w' v' l' := by
  have hs := h.kp.size
  have hs2 := hk.size
  refine ⟨k1, fun g hg => ?_, (h.kp.no hk).trans' k2 fun j hj e => ?_⟩
  · rcases k3 g hg with e | e
    · exact h.ge g e
    · omega
  · have := h.ge j e; omega
theorem NewS.app2 {w0 w w1 w' : World} {v v' : Value} {l l' : List α} {n : Nat} (k1 : Own K e w' v' l') (k2 : Kp (fun k => v.ownBlock = some k) w1 w') (k3 : ∀ g, v'.ownBlock = some g → v.ownBlock = some g ∨ n ≤ g) (hk : Kp No w w1) (h : NewS K e w0 w v l) (hn : w.heap.size ≤ n) : NewS K e w0 w' v' l' := h.app hk k1 k2 k3 hn
theorem NewS.empty (K : Kd α) (e : TypeId) (w : World) : NewS K e w (w.alloc (.cells #[] e)) (.slice (some ⟨w.heap.size, 0, none⟩) 0 0) ([] : List α) :=
  ⟨Own.lit K e w [] [] rfl (by simp), fun g hg => by simp [Value.ownBlock] at hg; omega, (Kp.refl _ _).alloc _⟩
end

/-- The rows are others: they lie in new memory. -/
def RefTo (br : Nat) (R' : List Rw) (V : Value) (w w' : World) : Prop := ∃ V', RepR w' br R' V' ∧ Kp (fun k => k = br) w w' ∧ ∀ g, V'.ownBlock = some g → V.ownBlock = some g ∨ w.heap.size ≤ g
theorem RefTo.same {w w' : World} {br : Nat} {R : List Rw} {V : Value} (h : RepR w br R V) (hk : Kp No w w') : RefTo br R V w w' := ⟨V, h.kpNo hk, hk.mono fun _ _ h => h.elim, fun _ h => .inl h⟩
theorem RefTo.store {w w0 wr : World} {br : Nat} {R R' : List Rw} {V v : Value} (h : RepR w br R V) (h0 : Kp No w w0) (hn : NewS RK 59 w0 wr v R') : RefTo br R' V w (wr.setCell ⟨br, 0, none⟩ v) := by
  have hb := lt_of_block h.blk
  have hs := h0.size
  have hk := h0.no hn.kp
  refine ⟨v, ⟨?_, hn.own.rd.kp ((Kp.refl (fun k => k = br) wr).setCell (fun _ => rfl) _) (fun g hg e => ?_), fun g hg => ⟨fun e => ?_, ?_⟩⟩, (hk.mono fun _ _ h => h.elim).trans ((Kp.refl (fun k => k = br) wr).setCell (fun _ => rfl) _), fun g hg => .inr ?_⟩
  · exact (blk_set (hk.blk h.blk (no_no _)) 0 v).trans rfl
  · have := hn.ge g hg; omega
  · have := hn.ge g hg; omega
  · have := hn.own.lt hg; simpa using this
  · have := hn.ge g hg; omega

theorem filter_snoc {α : Type} (p : α → Bool) (l : List α) (k : Nat) (x : α) (h : l[k]? = some x) : (l.take (k + 1)).filter p = (l.take k).filter p ++ if p x then [x] else [] := by
  rw [List.take_add_one, h, Option.toList_some, List.filter_append]
  by_cases hp : p x <;> simp [hp]

def rforget (R : List Rw) (m : Int) : List Rw := R.filter fun r => decide (m < r.2.2)

set_option maxRecDepth 100000 in
theorem rforget_any {w : World} {br : Nat} {R : List Rw} {V : Value} (h : RepR w br R V) (hlen : R.length ≤ 1000) (m : Int) :
    Calls Try.prog 31 #[.pointer (some ⟨br, 0, none⟩), .int .i64 m] w fun e w' => e = .returned (.tuple #[]) ∧ RefTo br (rforget R m) V w w' := by
  obtain ⟨A, cap, rfl⟩ := h.rd.shape
  have H := Lib.hid h
  clear h
  go_enter Try.func31, Try.ntmps31
  go_wp2
  go_loopw [4, 5] (fun v i wr => ∃ k : Nat, i = .int .i64 k ∧ k ≤ R.length ∧ NewS RK 59 w wr v (rforget (R.take k) m)) (fun _ i _ => R.length - (intOf i).toNat)
  case atStart => exact ⟨0, rfl, by omega, NewS.nil _ _ _⟩
  case round =>
    obtain ⟨k, rfl, hk, ho⟩ := hrel
    have HR := Lib.hid (H.out.kpNo ho.kp)
    have hb := (blk_cell HR.out.blk 0).trans rfl
    have hbf := blk_free HR.out.blk 0
    simp only [List.getElem?_toArray, List.getElem?_cons_zero] at hb
    by_cases hlt : k < R.length
    · obtain ⟨x, hx⟩ : ∃ x, R[k]? = some x := ⟨_, List.getElem?_eq_getElem hlt⟩
      rcases H.out.rd with ⟨hv, he⟩ | ⟨g, o, cap', hv, _⟩
      · rw [he] at hlt; simp at hlt
      simp only [Value.slice.injEq] at hv
      obtain ⟨rfl, _, rfl⟩ := hv
      obtain ⟨hc1, hc2, hc3, hc4⟩ := HR.out.rd.rowAt hx
      have hsn : rforget (R.take (k + 1)) m = rforget (R.take k) m ++ if decide (m < x.2.2) then [x] else [] := filter_snoc _ R k x hx
      have hfl : (rforget (R.take k) m).length ≤ 1000 := by
        have := List.length_filter_le (fun r : Rw => decide (m < r.2.2)) (R.take k)
        have h2 : (R.take k).length ≤ R.length := by rw [List.length_take]; omega
        show ((R.take k).filter _).length ≤ 1000
        omega
      generalize rforget (R.take k) m = sl at *
      have HO := Lib.hid ho; have HSN := Lib.hid hsn
      have hltI : (k : Int) < (R.length : Int) := by omega
      clear ho hsn hx hlt hbf
      by_cases hxm : m < x.2.2
      · go_wp2_with (at_builtin; refine wpl_append elR rfl (.tmp 26) (.tmp 34) rfl rfl rfl (l := sl) (m := [x]) ?c1 ?c2 ?c3 ?c4 ?c5)
        case c1 => exact (HO.out.alloc _).own
        case c2 => exact Rd.litAt RK 59 _ _ [x] rfl (by unfold maxLen; simp) _ _ (by simp) rfl
        case c3 => show sl.length + 1 ≤ maxLen; unfold maxLen; omega
        case c4 => show (sl.length + 1) * 24 ≤ _; omega
        case c5 =>
          intro v' w' k1 k2 k3
          have Q := Lib.hid (HO.out.app ((Kp.refl _ _).alloc _) k1 k2 k3 (by omega))
          clear k1 k2 k3
          go_wp2
          go_roundw
          case rel => exact ⟨k + 1, by go_num, by omega, by rw [HSN.out, if_pos (by simpa using hxm)]; exact Q.out⟩
          case measure => simp [intOf]; omega
      · go_wp2
        go_roundw
        case rel => exact ⟨k + 1, by go_num, by omega, by rw [HSN.out, if_neg (by simpa using hxm), List.append_nil]; exact HO.out⟩
        case measure => simp [intOf]; omega
    · obtain rfl : k = R.length := by omega
      rw [List.take_length] at ho
      have HO := Lib.hid ho
      clear ho
      have hd0 : ¬ (R.length : Int) < (R.length : Int) := by omega
      obtain ⟨A2, cap2, rfl⟩ := HO.out.own.rd.shape
      go_wp2
      go_end0
      exact ⟨rfl, RefTo.store H.out (Kp.refl _ _) HO.out⟩

theorem eqlR (x y : Rw) (b : Bool) (hb : b = decide (x = y)) (w : World) : (binOp .eql 59 (.agg #[.int .i64 x.1, .int .i64 x.2.1, .int .i64 x.2.2]) (.agg #[.int .i64 y.1, .int .i64 y.2.1, .int .i64 y.2.2])).run Try.prog w = .ok (.bool b) w := by
  subst hb
  have h : decide (x = y) = (decide (x.1 = y.1) && (decide (x.2.1 = y.2.1) && decide (x.2.2 = y.2.2))) := by
    rw [← Bool.decide_and, ← Bool.decide_and]; exact decide_eq_decide.2 (by rw [Prod.ext_iff, Prod.ext_iff])
  rw [h]
  by_cases h1 : x.1 = y.1 <;> by_cases h2 : x.2.1 = y.2.1 <;> by_cases h3 : x.2.2 = y.2.2 <;> simp [binOp, Op.equal, Op.maxDepth, go_sem, h1, h2, h3]

theorem erase_at (R : List Rw) (y : Rw) : ∀ k, R[k]? = some y → (∀ j, j < k → R[j]? ≠ some y) → R.erase y = R.take k ++ R.drop (k + 1) := by
  induction R with
  | nil => intro k h; simp at h
  | cons r R ih =>
    intro k h hn
    cases k with
    | zero => simp at h; subst h; simp
    | succ k =>
      have h0 : r ≠ y := fun e => hn 0 (by omega) (by simp [e])
      rw [List.erase_cons_tail (by simpa using h0)]
      simp only [List.take_succ_cons, List.drop_succ_cons, List.cons_append, List.cons.injEq, true_and]
      exact ih k (by simpa using h) fun j hj e => hn (j + 1) (by omega) (by simpa using e)

def rdropE (R : List Rw) (y : Rw) : Int := if y ∈ R then 0 else 2
set_option maxRecDepth 100000 in
theorem rdrop_any {w : World} {br : Nat} {R : List Rw} {V : Value} (h : RepR w br R V) (hlen : R.length ≤ 1000) (c : Int) (x : Int × Int) (r : Int) (hr : r = rdropE R (c, x)) :
    Calls Try.prog 30 #[.pointer (some ⟨br, 0, none⟩), .int .i64 c, .agg #[.int .i64 x.1, .int .i64 x.2]] w fun e w' => e = .returned (.int .i64 r) ∧ RefTo br (R.erase (c, x)) V w w' := by
  obtain ⟨A, cap, rfl⟩ := h.rd.shape
  have HRR := Lib.hid hr
  obtain ⟨w0, hw0⟩ : ∃ w0 : World, w0 = w.alloc (.cells #[.int .i64 x.1, .int .i64 x.2] 23) := ⟨_, rfl⟩
  have hp0 : w0.heap[w.heap.size]? = some (.cells #[.int .i64 x.1, .int .i64 x.2] 23 (0, 0)) := hw0 ▸ blk_new w _
  have hk0 : Kp No w w0 := hw0 ▸ (Kp.refl _ _).alloc _
  have H := Lib.hid h
  have HP := Lib.hid hp0; have K0 := Lib.hid hk0
  clear h hr hp0 hk0
  go_enter Try.func30, Try.ntmps30
  go_wp2
  rw [← hw0]
  clear hw0
  go_loopw [7] (fun i wr => ∃ k : Nat, i = .int .i64 k ∧ k ≤ R.length ∧ (∀ j, j < k → R[j]? ≠ some (c, x)) ∧ Kp No w0 wr) (fun i _ => R.length - (intOf i).toNat)
  case atStart => exact ⟨0, rfl, by omega, by omega, Kp.refl _ _⟩
  case round =>
    obtain ⟨k, rfl, hk, hnot, hK⟩ := hrel
    have HR := Lib.hid ((H.out.kpNo K0.out).kpNo hK)
    have hb := (blk_cell HR.out.blk 0).trans rfl
    obtain ⟨hp1, hp2⟩ := box2 HP.out hK
    simp only [List.getElem?_toArray, List.getElem?_cons_zero] at hb
    have HK := Lib.hid hK
    by_cases hlt : k < R.length
    · obtain ⟨y, hy⟩ : ∃ y, R[k]? = some y := ⟨_, List.getElem?_eq_getElem hlt⟩
      have HRD := Lib.hid H.out.rd
      rcases H.out.rd with ⟨hv, he⟩ | ⟨g, o, cap', hv, _⟩
      · rw [he] at hlt; simp at hlt
      simp only [Value.slice.injEq] at hv
      obtain ⟨rfl, _, rfl⟩ := hv
      obtain ⟨hc1, hc2, hc3, hc4⟩ := HR.out.rd.rowAt hy
      have hltI : (k : Int) < (R.length : Int) := by omega
      have HN := Lib.hid hnot; have HY := Lib.hid hy
      clear hnot hK hy hlt
      by_cases hyx : y = (c, x)
      · subst hyx
        have hq := eqlR (c, x) (c, x) true (by simp)
        simp only at hq hc1 hc2 hc3 hc4
        obtain ⟨v2, hsl, hrd2, _⟩ := HRD.out.upto elR k (by omega) k rfl
        obtain ⟨v3, hsl3, hrd3, _⟩ := HRD.out.from elR (k + 1) (by omega) ((k : Int) + 1) (by omega)
        obtain rfl : r = 0 := by rw [HRR.out]; simp [rdropE, List.mem_of_getElem? HY.out]
        have hwr : IntKind.i64.wrap ((k : Int) + 1) = (k : Int) + 1 := IntWalk.i64_in _ (by omega)
        obtain ⟨B2, q2, rfl⟩ := hrd2.shape
        obtain ⟨B3, q3, rfl⟩ := hrd3.shape
        have HR2 := Lib.hid hrd2; have HR3 := Lib.hid hrd3
        have HE := Lib.hid (erase_at R (c, x) k HY.out HN.out)
        have hl1 : (R.take k).length ≤ 1000 := by rw [List.length_take]; omega
        have hl2 : (R.drop (k + 1)).length ≤ 1000 := by rw [List.length_drop]; omega
        have hb' : ∀ n ob, ((wr.drewN n).alloc ob).cell? ⟨br, 0, none⟩ = some (.slice (some ⟨g, o, none⟩) R.length cap) := fun n o => ((Kp.refl No wr).drewN n).alloc o |>.cellS hb (no_no _)
        generalize R.take k = l1 at *
        generalize R.drop (k + 1) = l2 at *
        clear hrd2 hrd3
        go_wp2
        go_quiet (fail)
        go_wp2_with (at_builtin; refine wpl_append elR rfl (.tmp 29) (.tmp 35) rfl rfl rfl (l := []) (m := l1) ?c1 ?c2 ?c3 ?c4 ?c5)
        case c1 => exact (NewS.empty RK 59 _).own
        case c2 => exact (HR2.out.kpNo (((K0.out.no HK.out).drewN _).alloc _))
        case c3 => show 0 + l1.length ≤ maxLen; unfold maxLen; omega
        case c4 => show (0 + l1.length) * 24 ≤ _; omega
        case c5 =>
          intro v' w' k1 k2 k3
          have Q := Lib.hid (NewS.app2 k1 k2 k3 (Kp.refl _ _) (NewS.empty RK 59 _) (by simp))
          clear k1 k2 k3
          obtain ⟨A4, q4, rfl⟩ := Q.out.own.rd.shape
          have KW : Hid (Kp No w w') := ((K0.out.no HK.out).drewN _).no Q.out.kp
          have HR4 := Lib.hid (H.out.kpNo KW.out)
          have hb4 := (blk_cell HR4.out.blk 0).trans rfl
          simp only [List.getElem?_toArray, List.getElem?_cons_zero] at hb4
          go_wp2_with (at_builtin; refine wpl_append elR rfl (.tmp 37) (.tmp 44) rfl rfl rfl (l := [] ++ l1) (m := l2) ?d1 ?d2 ?d3 ?d4 ?d5)
          case d1 => exact Q.out.own
          case d2 => exact HR3.out.kpNo KW.out
          case d3 => show l1.length + l2.length ≤ maxLen; unfold maxLen; omega
          case d4 => show (l1.length + l2.length) * 24 ≤ _; omega
          case d5 =>
            intro v5 w5 k1 k2 k3
            have Q5 := Lib.hid (NewS.app2 k1 k2 k3 (Kp.refl _ _) Q.out (by omega))
            clear k1 k2 k3
            obtain ⟨A5, q5, rfl⟩ := Q5.out.own.rd.shape
            have KW5 : Hid (Kp No w w5) := ((K0.out.no HK.out).drewN _).no Q5.out.kp
            have HR5 := Lib.hid (H.out.kpNo KW5.out)
            have hb5 := (blk_cell HR5.out.blk 0).trans rfl
            have hbf5 := blk_free HR5.out.blk 0
            go_wp2
            go_ret
            refine ⟨rfl, ?_⟩
            rw [HE.out]
            have hq5 := Q5.out
            rw [List.length_append] at hq5
            exact RefTo.store H.out ((K0.out.no HK.out).drewN _) hq5
      · have hq := eqlR y (c, x) false (by simp [hyx])
        simp only at hq
        go_wp2
        go_quiet (fail)
        go_wp2
        go_roundw
        case rel =>
          refine ⟨k + 1, by go_num, by omega, fun j hj => ?_, HK.out.drewN _⟩
          by_cases hjk : j = k
          · subst hjk; rw [HY.out]; simpa using hyx
          · exact HN.out j (by omega)
        case measure => simp [intOf]; omega
    · obtain rfl : k = R.length := by omega
      obtain rfl : r = 2 := by
        rw [HRR.out]
        have hni : ¬ (c, x) ∈ R := fun hm => by
          obtain ⟨j, hj⟩ := List.mem_iff_getElem?.1 hm
          exact hnot j (List.getElem?_eq_some_iff.1 hj).1 hj
        simp [rdropE, hni]
      have hers : R.erase (c, x) = R := by
        refine List.erase_of_not_mem fun hm => ?_
        obtain ⟨j, hj⟩ := List.mem_iff_getElem?.1 hm
        exact hnot j (List.getElem?_eq_some_iff.1 hj).1 hj
      have HERS := Lib.hid hers
      clear hnot hK hers
      have hd0 : ¬ (R.length : Int) < (R.length : Int) := by omega
      go_wp2
      go_ret
      exact ⟨rfl, by rw [HERS.out]; exact RefTo.same H.out (K0.out.no HK.out)⟩
end Go.Proofs.Ytihnbgokkhbjnaa
