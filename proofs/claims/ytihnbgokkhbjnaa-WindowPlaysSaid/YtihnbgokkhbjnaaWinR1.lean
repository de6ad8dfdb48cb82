/- The document's table (carfaxref06): Right, Taken, Free, Is. -/
import Derived.Test.YtihnbgokkhbjnaaWinEitherW
namespace Go.Proofs.Ytihnbgokkhbjnaa
set_option linter.unusedVariables false
set_option linter.unusedSimpArgs false
open Go.RowKit

abbrev Rw := Int × (Int × Int)
def RK : Kd Rw := { sz := 3, enc := fun r => [.int .i64 r.1, .int .i64 r.2.1, .int .i64 r.2.2], len := fun _ => rfl, one := by intro a v hv; simp at hv; rcases hv with rfl | rfl | rfl <;> rfl, pos := by decide }
theorem elR : ElT Try.prog 45 59 RK 24 := ElT.of (z := .agg #[.int .i64 0, .int .i64 0, .int .i64 0]) (by kernel_rfl) (by kernel_rfl) rfl

theorem Rd.rowAt {w : World} {l : List Rw} {g o n cap : Nat} (h : Rd RK w (.slice (some ⟨g, o, none⟩) n cap) l) {i : Nat} {x : Rw} (hx : l[i]? = some x) :
    w.cell? ⟨g, o + i * 3, none⟩ = some (.int .i64 x.1) ∧ w.cell? ⟨g, o + i * 3 + 1, none⟩ = some (.int .i64 x.2.1) ∧ w.cell? ⟨g, o + i * 3 + 2, none⟩ = some (.int .i64 x.2.2) ∧ w.cell? ⟨g, o + i * 3 + 1 + 1, none⟩ = some (.int .i64 x.2.2) :=
  ⟨h.at rfl hx (j := 0) rfl, h.at rfl hx (j := 1) rfl, h.at rfl hx (j := 2) rfl, h.at rfl hx (j := 2) rfl⟩

/-- The block br holds the slice V of the rows R. -/
structure RepR (w : World) (br : Nat) (R : List Rw) (V : Value) : Prop where
  blk : w.heap[br]? = some (.cells #[V] 47 (0, 0))
  rd : Rd RK w V R
  ne : ∀ g, V.ownBlock = some g → g ≠ br ∧ g < w.heap.size

theorem RepR.kp {w w' : World} {br : Nat} {R : List Rw} {V : Value} {S : Nat → Prop} (h : RepR w br R V) (hk : Kp S w w') (h1 : ¬ S br) (h2 : ∀ g, V.ownBlock = some g → ¬ S g) : RepR w' br R V :=
  ⟨hk.blk h.blk h1, h.rd.kp hk h2, fun g hg => ⟨(h.ne g hg).1, Nat.lt_of_lt_of_le (h.ne g hg).2 hk.size⟩⟩
theorem RepR.kpNo {w w' : World} {br : Nat} {R : List Rw} {V : Value} (h : RepR w br R V) (hk : Kp No w w') : RepR w' br R V := h.kp hk (no_no _) fun _ _ => no_no _

/-- The windows of a cell. -/
def flt (R : List Rw) (c : Int) : List (Int × Int) := (R.filter fun r => decide (r.1 = c)).map (·.2)
theorem flt_append (a b : List Rw) (c : Int) : flt (a ++ b) c = flt a c ++ flt b c := by simp [flt]
theorem flt_one (r : Rw) (c : Int) : flt [r] c = if r.1 = c then [r.2] else [] := by by_cases h : r.1 = c <;> simp [flt, h]
theorem flt_cons (r : Rw) (R : List Rw) (c : Int) : flt (r :: R) c = if r.1 = c then r.2 :: flt R c else flt R c := by by_cases h : r.1 = c <;> simp [flt, h]
theorem flt_snoc (R : List Rw) (k : Nat) (r : Rw) (c : Int) (h : R[k]? = some r) : flt (R.take (k + 1)) c = flt (R.take k) c ++ if r.1 = c then [r.2] else [] := by
  rw [List.take_add_one, h, Option.toList_some, flt_append, flt_one]
theorem flt_len (R : List Rw) (c : Int) : (flt R c).length ≤ R.length := by simp [flt]; exact List.length_filter_le _ _

set_option maxRecDepth 100000 in
theorem rtaken_any {w : World} {br : Nat} {R : List Rw} {V : Value} (h : RepR w br R V) (hlen : R.length ≤ 1000) (c : Int) :
    Calls Try.prog 20 #[.pointer (some ⟨br, 0, none⟩), .int .i64 c] w (RetNew WK 23 (flt R c) w) := by
  obtain ⟨A, cap, rfl⟩ := h.rd.shape
  have H := Lib.hid h
  clear h
  go_enter Try.func20, Try.ntmps20
  go_wp2
  go_loopw [5, 6] (fun v i wr => ∃ k : Nat, i = .int .i64 k ∧ k ≤ R.length ∧ Own WK 23 wr v (flt (R.take k) c) ∧ (∀ g, v.ownBlock = some g → w.heap.size ≤ g) ∧ Kp No w wr) (fun _ i _ => R.length - (intOf i).toNat)
  case atStart => exact ⟨0, rfl, by omega, Own.nil _ _ _, by simp [Value.ownBlock], Kp.refl _ _⟩
  case round =>
    obtain ⟨k, rfl, hk, ho, hge, hK⟩ := hrel
    have HR := Lib.hid (H.out.kpNo hK)
    have hb := (blk_cell HR.out.blk 0).trans rfl
    simp only [List.getElem?_toArray, List.getElem?_cons_zero] at hb
    by_cases hlt : k < R.length
    · obtain ⟨x, hx⟩ : ∃ x, R[k]? = some x := ⟨_, List.getElem?_eq_getElem hlt⟩
      rcases H.out.rd with ⟨hv, he⟩ | ⟨g, o, cap', hv, _⟩
      · rw [he] at hlt; simp at hlt
      simp only [Value.slice.injEq] at hv
      obtain ⟨rfl, _, rfl⟩ := hv
      obtain ⟨hc1, hc2, hc3, hc4⟩ := HR.out.rd.rowAt hx
      have hsn := flt_snoc R k x c hx
      have hfl : (flt (R.take k) c).length ≤ 1000 := by
        have := flt_len (R.take k) c
        have h2 : (R.take k).length ≤ R.length := by rw [List.length_take]; omega
        omega
      generalize flt (R.take k) c = sl at *
      have HO := Lib.hid ho; have HG := Lib.hid hge; have HK := Lib.hid hK; have HSN := Lib.hid hsn
      have hltI : (k : Int) < (R.length : Int) := by omega
      clear ho hge hK hsn hx hlt
      by_cases hxc : x.1 = c
      · go_wp2_with (at_builtin; refine wpl_append elW rfl (.tmp 26) (.tmp 35) rfl rfl rfl (l := sl) (m := [x.2]) ?c1 ?c2 ?c3 ?c4 ?c5)
        case c1 => exact HO.out.alloc _
        case c2 => exact Rd.litAt WK 23 _ _ [x.2] rfl (by unfold maxLen; simp) _ _ (by simp) rfl
        case c3 => show sl.length + 1 ≤ maxLen; unfold maxLen; omega
        case c4 => show (sl.length + 1) * 16 ≤ _; omega
        case c5 =>
          intro v' w' k1 k2 k3
          have Q1 := Lib.hid k1; have Q2 := Lib.hid k2; have Q3 := Lib.hid k3
          clear k1 k2 k3
          go_wp2
          go_roundw
          case rel =>
            have hsz := HK.out.size
            refine ⟨k + 1, by go_num, by omega, by rw [HSN.out, if_pos hxc]; exact Q1.out, ?_, (HK.out.alloc _).trans' Q2.out ?_⟩
            · intro q hq
              rcases Q3.out q hq with e | e
              · exact HG.out q e
              · omega
            · intro q hq e; have := HG.out q e; omega
          case measure => simp [intOf]; omega
      · go_wp2
        go_roundw
        case rel => exact ⟨k + 1, by go_num, by omega, by rw [HSN.out, if_neg hxc, List.append_nil]; exact HO.out, HG.out, HK.out⟩
        case measure => simp [intOf]; omega
    · obtain rfl : k = R.length := by omega
      rw [List.take_length] at ho
      have HO := Lib.hid ho; have HG := Lib.hid hge; have HK := Lib.hid hK
      clear ho hge hK
      have hd0 : ¬ (R.length : Int) < (R.length : Int) := by omega
      go_wp2
      go_ret
      exact ⟨_, rfl, HO.out, HK.out, HG.out⟩
end Go.Proofs.Ytihnbgokkhbjnaa
