/- bits.Writer: bit. -/
import Derived.Test.YtnejjjoedmefkaaBitQ
import Derived.StillTailTactics
namespace Go.Proofs.Ytnejjjoedmefkaa
set_option linter.unusedVariables false
set_option linter.unusedSimpArgs false
open Go.RowKit

/-- A byte's cell. -/
def BK : Kd Nat := { sz := 1, enc := fun x => [.int .u8 (x : Int)], len := fun _ => rfl, one := by intro a v hv; simp at hv; subst hv; rfl, pos := by decide }
theorem elB : ElT Try.prog 23 5 BK 1 := ElT.of (z := .int .u8 0) (by kernel_rfl) (by kernel_rfl) rfl
theorem Rd.byteAt {w : World} {l : List Nat} {g o n cap : Nat} (h : Rd BK w (.slice (some ⟨g, o, none⟩) n cap) l) {i x : Nat} (hx : l[i]? = some x) : w.cell? ⟨g, o + i, none⟩ = some (.int .u8 (x : Int)) := by
  have := h.at rfl hx (j := 0) rfl
  simpa [BK] using this

theorem encs_BK (l : List Nat) : BK.encs l = l.map fun x => .int .u8 (x : Int) := by
  induction l with
  | nil => rfl
  | cons a l ih => rw [Kd.encs_cons, ih]; rfl
/-- A byte is stored into a slice that is owned. -/
theorem Own.setByte {w : World} {g cap n : Nat} {l : List Nat} (h : Own BK 5 w (.slice (some ⟨g, 0, none⟩) n cap) l) (d y : Nat) (hd : d < l.length) : Own BK 5 (w.setCell ⟨g, d, none⟩ (.int .u8 (y : Int))) (.slice (some ⟨g, 0, none⟩) n cap) (l.set d y) := by
  rcases h.b with ⟨e1, _⟩ | ⟨g', cap', e1, e2, e3, h1⟩
  · simp at e1
  simp only [Value.slice.injEq, Option.some.injEq, Addr.mk.injEq] at e1
  obtain ⟨⟨rfl, _⟩, rfl, rfl⟩ := e1
  obtain ⟨cur, a1, a2, a3, a4⟩ := h1
  have : OwnB BK 5 (w.setCell ⟨g, d, none⟩ (.int .u8 (y : Int))) g cap (l.set d y) := by
    refine ⟨_, blk_set a1 d _, by simpa using a2, by simpa using a3, ?_⟩
    rw [encs_BK] at a4 ⊢
    simp only [Array.toList_setIfInBounds, List.length_set, List.take_set, a4, List.map_set]
  have := this.own e2
  rwa [List.length_set] at this
theorem Own.free {w : World} {g cap n : Nat} {l : List Nat} (h : Own BK 5 w (.slice (some ⟨g, 0, none⟩) n cap) l) (i : Nat) : w.frozen? ⟨g, i, none⟩ = false := by
  rcases h.b with ⟨e1, _⟩ | ⟨g', cap', e1, e2, e3, h1⟩
  · simp at e1
  simp only [Value.slice.injEq, Option.some.injEq, Addr.mk.injEq] at e1
  obtain ⟨⟨rfl, _⟩, rfl, rfl⟩ := e1
  obtain ⟨cur, a1, a2, a3, a4⟩ := h1
  exact blk_free a1 i
theorem Own.setLow {w : World} {g cap n : Nat} {l : List Nat} (h : Own BK 5 w (.slice (some ⟨g, 0, none⟩) n cap) l) : n = l.length := by
  rcases h with ⟨e, _⟩ | ⟨_, _, _, e, _⟩ <;> simp at e
  omega

theorem bits_or_u8_nat (a b : Nat) (ha : a < 256) (hb : b < 256) : bits .or .u8 (a : Int) (b : Int) = ((a ||| b : Nat) : Int) := by
  have hx : a ||| b < 2 ^ 8 := Nat.or_lt_two_pow (by omega) (by omega)
  have h1 : (BitVec.ofInt 8 (a : Int)).toNat = a := by
    rw [BitVec.ofInt_natCast, BitVec.toNat_ofNat]; exact Nat.mod_eq_of_lt (by omega)
  have h2 : (BitVec.ofInt 8 (b : Int)).toNat = b := by
    rw [BitVec.ofInt_natCast, BitVec.toNat_ofNat]; exact Nat.mod_eq_of_lt (by omega)
  show IntKind.u8.wrap ((BitVec.ofInt 8 (a : Int) ||| BitVec.ofInt 8 (b : Int)).toNat : Int) = _
  rw [BitVec.toNat_or, h1, h2]
  show (((a ||| b : Nat) : Int) % 256) = _
  omega

/-- A writer that was made since w0: p points to it, it has laid l. -/
structure WrV (w0 : World) (p : Nat) (l : List Bool) (w : World) (V : Value) : Prop where
  blk : w.heap[p]? = some (.cells #[V, .int .i64 (l.length : Int)] 103 (0, 0))
  own : Own BK 5 w V (packB l)
  ne : ∀ g, V.ownBlock = some g → g ≠ p
  kp : Kp No w0 w
  po : w0.heap.size ≤ p
  vo : ∀ g, V.ownBlock = some g → w0.heap.size ≤ g
def AtW (w0 : World) (p : Nat) (l : List Bool) (w : World) : Prop := ∃ V, WrV w0 p l w V

theorem wr_fin {w0 w w5 : World} {p n : Nat} {l' : List Bool} {V x : Value} (h0 : Kp No w0 w) (hk : Kp (fun k => w0.heap.size ≤ k) w w5) (hb : w5.heap[p]? = some (.cells #[V, x] 103 (0, 0))) (ho : Own BK 5 w5 V (packB l'))
    (hne : ∀ g, V.ownBlock = some g → g ≠ p) (po : w0.heap.size ≤ p) (vo : ∀ g, V.ownBlock = some g → w0.heap.size ≤ g) (hn : l'.length = n + 1) : AtW w0 p l' (w5.setCell ⟨p, 1, none⟩ (.int .i64 ((n : Int) + 1))) := by
  refine ⟨V, ?_, ho.kp ((Kp.refl (fun k => k = p) w5).setCell (p := ⟨p, 1, none⟩) (fun _ => rfl) _) hne, hne, ?_, po, vo⟩
  · have : ((l'.length : Nat) : Int) = (n : Int) + 1 := by omega
    rw [this]
    exact (blk_set hb 1 _).trans rfl
  · exact h0.trans' (hk.trans' ((Kp.refl (fun k => k = p) w5).setCell (p := ⟨p, 1, none⟩) (fun _ => rfl) _) (fun k _ e => by subst e; exact po)) (fun k hk h => by omega)

theorem newW_any (w : World) : Calls Try.prog 35 #[] w fun e w' => e = .returned (.pointer (some ⟨w.heap.size, 0, none⟩)) ∧ AtW w w.heap.size [] w' := by
  go_enter Try.func35, Try.ntmps35
  go_wp2
  go_ret
  refine ⟨rfl, .slice none 0 0, blk_new w _, ?_, by simp [Value.ownBlock], (Kp.refl _ _).alloc _, Nat.le_refl _, by simp [Value.ownBlock]⟩
  rw [packB_nil]
  exact Own.nil _ _ _

set_option maxRecDepth 100000 in
theorem bit_any {w0 w : World} {p : Nat} {l : List Bool} (h : AtW w0 p l w) (hl : l.length < 1048576) (b : Bool) :
    Calls Try.prog 58 #[.pointer (some ⟨p, 0, none⟩), .bool b] w fun e w' => e = .returned (.tuple #[]) ∧ AtW w0 p (l ++ [b]) w' := by
  obtain ⟨V, h⟩ := h
  have hc1 := (blk_cell h.blk 0).trans rfl
  have hc2 := (blk_cell h.blk 1).trans rfl
  have hf0 := blk_free h.blk 0
  have hf1 := blk_free h.blk 1
  simp only [List.getElem?_toArray, List.getElem?_cons_zero, List.getElem?_cons_succ] at hc1 hc2
  obtain ⟨A, cap, rfl⟩ := h.own.rd.shape
  have H := Lib.hid h
  obtain ⟨n, hn⟩ : ∃ n, n = l.length := ⟨_, rfl⟩
  rw [← hn] at hc2
  obtain ⟨x, hx1, hx2, hx3⟩ := packB_true l
  have hpl := packB_false l
  have hplen := packB_len l
  rw [← hn] at hx1 hx3 hpl hplen
  obtain ⟨d, hd⟩ : ∃ d, d = n / 8 := ⟨_, rfl⟩
  obtain ⟨m, hm⟩ : ∃ m, m = n % 8 := ⟨_, rfl⟩
  rw [← hd] at hx1 hx3
  rw [← hm] at hx3 hpl
  have HX1 := Lib.hid hx1; have HPL := Lib.hid hpl
  have hn8 : n < 1048576 := by omega
  have hm8 : m < 8 := by omega
  have hT1 : (n : Int) % 8 = (m : Int) := by omega
  have hT2 : (n : Int).tmod 8 = (m : Int) := by rw [Int.tmod_eq_emod_of_nonneg (by omega)]; omega
  have hD1 : (n : Int) / 8 = (d : Int) := by omega
  have hD2 : (n : Int).tdiv 8 = (d : Int) := by rw [Int.tdiv_eq_ediv_of_nonneg (by omega)]; omega
  have hD3 : IntKind.i64.wrap (d : Int) = (d : Int) := IntWalk.i64_in _ (by omega)
  have hD4 : IntKind.i64.wrap (m : Int) = (m : Int) := IntWalk.i64_in _ (by omega)
  obtain ⟨y, hy⟩ : ∃ y, y = x ||| 128 / 2 ^ m := ⟨_, rfl⟩
  rw [← hy] at hx3
  have hor : bits .or .u8 (x : Int) ((128 : Int) / 2 ^ m) = (y : Int) := by
    have := bits_or_u8_nat x (128 / 2 ^ m) hx2 (by have := Nat.div_le_self 128 (2 ^ m); omega)
    rw [hy, ← this]
    congr 1
  clear hy
  have hpb : (packB l).length ≤ 200000 := by omega
  have HNN := Lib.hid hn
  have HX3 := Lib.hid hx3
  clear h hx1 hx3 hpl hplen hn hl hd hm
  by_cases hm : m = 0
  · have hq : packB l ++ [0] = packB (l ++ [false]) := by rw [HPL.out, if_pos hm]
    have HQ := Lib.hid hq
    have hm0 : ((m : Int) == 0) = true := by simp [hm]
    clear hq hm
    go_enter Try.func58, Try.ntmps58
    go_wp2_with (at_builtin; refine wpl_append elB rfl (.tmp 14) (.tmp 15) rfl rfl rfl (l := packB l) (m := [0]) ?c1 ?c2 ?c3 ?c4 ?c5)
    case c1 => exact H.out.own.alloc _
    case c2 => exact Rd.litAt BK 5 _ _ [0] rfl (by unfold maxLen; simp) _ _ rfl rfl
    case c3 => show (packB l).length + 1 ≤ maxLen; unfold maxLen; omega
    case c4 => show ((packB l).length + 1) * 1 ≤ _; omega
    case c5 =>
      intro v' w' k1 k2 k3
      rw [HQ.out] at k1
      obtain ⟨A5, q5, rfl⟩ := k1.rd.shape
      have hb1 : w'.heap[p]? = some (.cells #[.slice A (packB l).length cap, .int .i64 (n : Int)] 103 (0, 0)) := by
        have h := k2.blk (blk_alloc H.out.blk _) (fun e => H.out.ne _ e rfl)
        rwa [← HNN.out] at h
      have K1 := Lib.hid k1; have K2 := Lib.hid k2; have K3 := Lib.hid k3; have HB1 := Lib.hid hb1
      have hbf1 := blk_free hb1 0
      have hbf2 := blk_free hb1 1
      have hbc0 := (blk_cell hb1 0).trans rfl
      have hbc2 := (blk_cell hb1 1).trans rfl
      simp only [List.getElem?_toArray, List.getElem?_cons_zero, List.getElem?_cons_succ] at hbc0 hbc2
      have hpw := lt_of_block hb1
      rcases K1.out.b with ⟨e1, e2⟩ | ⟨g5, cap5, e1, e2, e3⟩
      · have := HX1.out; rw [e2] at this; simp at this
      simp only [Value.slice.injEq] at e1
      obtain ⟨rfl, _, rfl⟩ := e1
      have hdl : d < (packB (l ++ [false])).length := (List.getElem?_eq_some_iff.1 HX1.out).1
      have hdlI : (d : Int) < ((packB (l ++ [false])).length : Int) := by omega
      have VO : Hid (∀ g, (Value.slice (some ⟨g5, 0, none⟩) (packB (l ++ [false])).length q5).ownBlock = some g → w0.heap.size ≤ g) := fun g hg => by
        rcases K3.out g hg with h | h
        · exact H.out.vo g h
        · have := H.out.kp.size; first | omega | (simp at h; omega)
      have KA : Hid (Kp (fun k => w0.heap.size ≤ k) w w') := ((Kp.refl _ w).alloc _).trans' K2.out (fun k _ e => H.out.vo k e)
      have hgp : g5 ≠ p := fun e => by
        rcases K3.out g5 rfl with h | h
        · exact H.out.ne g5 h e
        · have := lt_of_block H.out.blk; omega
      have hblk : (w'.setCell ⟨p, 0, none⟩ (.slice (some ⟨g5, 0, none⟩) (packB (l ++ [false])).length q5)).heap[p]? = some (.cells #[.slice (some ⟨g5, 0, none⟩) (packB (l ++ [false])).length q5, .int .i64 (n : Int)] 103 (0, 0)) := (blk_set HB1.out 0 _).trans rfl
      have hs0 := (blk_cell hblk 0).trans rfl
      have hs1 := (blk_cell hblk 1).trans rfl
      have hsf := blk_free hblk 1
      have hown := K1.out.kp ((Kp.refl (fun k => k = p) w').setCell (p := ⟨p, 0, none⟩) (fun _ => rfl) (.slice (some ⟨g5, 0, none⟩) (packB (l ++ [false])).length q5)) (fun g hg e => by simp [Value.ownBlock] at hg; omega)
      have hxc := hown.rd.byteAt HX1.out
      rw [Nat.zero_add] at hxc
      simp only [List.getElem?_toArray, List.getElem?_cons_zero, List.getElem?_cons_succ] at hs0 hs1
      have HBK := Lib.hid hblk; have HOW := Lib.hid hown
      clear hblk hown k1 k2 k3 hb1
      have hn1 : IntKind.i64.wrap ((n : Int) + 1) = (n : Int) + 1 := IntWalk.i64_in _ (by omega)
      cases b with
      | false =>
        go_wp2
        go_end0
        refine ⟨rfl, wr_fin H.out.kp (KA.out.trans' ((Kp.refl (fun k => k = p) w').setCell (p := ⟨p, 0, none⟩) (fun _ => rfl) _) (fun k _ e => by subst e; exact H.out.po)) HBK.out HOW.out (fun g hg => by simp [Value.ownBlock] at hg; omega) H.out.po (fun g hg => ?_) (by rw [HNN.out]; simp)⟩
        exact VO.out g hg
      | true =>
        clear hs0 hs1 hsf hxc
        go_wp2
        obtain ⟨w5, hw5⟩ : ∃ w5 : World, w5 = w'.setCell ⟨p, 0, none⟩ (.slice (some ⟨g5, 0, none⟩) (packB (l ++ [false])).length q5) := ⟨_, rfl⟩
        rw [← hw5] at HBK HOW
        rw [← hw5]
        have KW : Hid (Kp (fun k => k = p) w' w5) := hw5 ▸ (Kp.refl (fun k => k = p) w').setCell (p := ⟨p, 0, none⟩) (fun _ => rfl) _
        have hs0 := (blk_cell HBK.out 0).trans rfl
        have hs1 := (blk_cell HBK.out 1).trans rfl
        have hsf := blk_free HBK.out 1
        have hxc := HOW.out.rd.byteAt HX1.out
        rw [Nat.zero_add] at hxc
        simp only [List.getElem?_toArray, List.getElem?_cons_zero, List.getElem?_cons_succ] at hs0 hs1
        clear hw5 hbc0 hbc2 hbf1 hbf2
        go_still_tail 19, (by kernel_rfl)
        have HB6 : Hid (w5.drew.heap[p]? = some (.cells #[.slice (some ⟨g5, 0, none⟩) (packB (l ++ [false])).length q5, .int .i64 (n : Int)] 103 (0, 0))) := HBK.out
        have HO6 : Hid (Own BK 5 w5.drew (.slice (some ⟨g5, 0, none⟩) (packB (l ++ [false])).length q5) (packB (l ++ [false]))) := HOW.out.kpNo (Kp.refl _ _).drew
        have KW6 : Hid (Kp (fun k => k = p) w' w5.drew) := KW.out.drew
        change wpList _ _ _ _ _ w5.drew
        clear hs0 hs1 hsf hxc HBK HOW KW
        generalize w5.drew = w6 at *
        have hxc := HO6.out.rd.byteAt HX1.out
        rw [Nat.zero_add] at hxc
        have hxf := HO6.out.free d
        have hq0 : (w6.setCell ⟨g5, d, none⟩ (.int .u8 (y : Int))).heap[p]? = some (.cells #[.slice (some ⟨g5, 0, none⟩) (packB (l ++ [false])).length q5, .int .i64 (n : Int)] 103 (0, 0)) := blk_far HB6.out (fun e => hgp e.symm) _
        have hq1 := (blk_cell hq0 1).trans rfl
        have hq2 := blk_free hq0 1
        have HQ0 := Lib.hid hq0
        simp only [List.getElem?_toArray, List.getElem?_cons_zero, List.getElem?_cons_succ] at hq1
        have hgp2 := Lib.hid hgp
        clear hq0 hgp
        go_wp2
        go_end0
        have ho := HO6.out.setByte d y (List.getElem?_eq_some_iff.1 HX1.out).1
        rw [← HX3.out] at ho
        refine ⟨rfl, wr_fin H.out.kp ((KA.out.trans' KW6.out (fun k _ e => by subst e; exact H.out.po)).trans' ((Kp.refl (fun k => k = g5) w6).setCell (p := ⟨g5, d, none⟩) (fun _ => rfl) _) (fun k _ e => by subst e; exact VO.out _ rfl)) HQ0.out ho (fun g hg => by have := hgp2.out; simp [Value.ownBlock] at hg; omega) H.out.po VO.out (by rw [HNN.out]; simp)⟩
  · have hq : packB l = packB (l ++ [false]) := by rw [HPL.out, if_neg hm]
    have hm0 : ((m : Int) == 0) = false := by simp [hm]
    have hown := H.out.own
    have hblk := H.out.blk
    rw [hq] at hown hblk hc1
    rw [← HNN.out] at hblk
    have HN := Lib.hid H.out.ne; have VO0 := Lib.hid H.out.vo; have HKP := Lib.hid H.out.kp; have HPO := Lib.hid H.out.po
    rw [hq] at HN VO0
    clear hq hm H hpb
    rcases hown.b with ⟨e1, e2⟩ | ⟨g5, cap5, e1, e2, e3⟩
    · have := HX1.out; rw [e2] at this; simp at this
    simp only [Value.slice.injEq] at e1
    obtain ⟨rfl, _, rfl⟩ := e1
    have hgp : g5 ≠ p := HN.out g5 rfl
    have VO := VO0
    have K1 := Lib.hid hown; have HB1 := Lib.hid hblk
    have hdl : d < (packB (l ++ [false])).length := (List.getElem?_eq_some_iff.1 HX1.out).1
    have hdlI : (d : Int) < ((packB (l ++ [false])).length : Int) := by omega
    have hs0 := (blk_cell HB1.out 0).trans rfl
    have hs1 := (blk_cell HB1.out 1).trans rfl
    have hsf := blk_free HB1.out 1
    have hxc := K1.out.rd.byteAt HX1.out
    rw [Nat.zero_add] at hxc
    simp only [List.getElem?_toArray, List.getElem?_cons_zero, List.getElem?_cons_succ] at hs0 hs1
    clear hown hblk
    have hn1 : IntKind.i64.wrap ((n : Int) + 1) = (n : Int) + 1 := IntWalk.i64_in _ (by omega)
    cases b with
    | false =>
      go_enter Try.func58, Try.ntmps58
      go_wp2
      go_end0
      exact ⟨rfl, wr_fin HKP.out (Kp.refl _ _) HB1.out K1.out HN.out HPO.out VO.out (by rw [HNN.out]; simp)⟩
    | true =>
      go_enter Try.func58, Try.ntmps58
      go_wp2
      go_still_tail 19, (by kernel_rfl)
      have HB6 : Hid (w.drew.heap[p]? = some (.cells #[.slice (some ⟨g5, 0, none⟩) (packB (l ++ [false])).length cap, .int .i64 (n : Int)] 103 (0, 0))) := HB1.out
      have HO6 : Hid (Own BK 5 w.drew (.slice (some ⟨g5, 0, none⟩) (packB (l ++ [false])).length cap) (packB (l ++ [false]))) := K1.out.kpNo (Kp.refl _ _).drew
      have KW6 : Hid (Kp No w w.drew) := (Kp.refl _ _).drew
      change wpList _ _ _ _ _ w.drew
      clear hs0 hs1 hsf hxc HB1 K1 hc1 hc2 hf0 hf1
      generalize w.drew = w6 at *
      have hxc := HO6.out.rd.byteAt HX1.out
      rw [Nat.zero_add] at hxc
      have hxf := HO6.out.free d
      have hq0 : (w6.setCell ⟨g5, d, none⟩ (.int .u8 (y : Int))).heap[p]? = some (.cells #[.slice (some ⟨g5, 0, none⟩) (packB (l ++ [false])).length cap, .int .i64 (n : Int)] 103 (0, 0)) := blk_far HB6.out (fun e => hgp e.symm) _
      have hq1 := (blk_cell hq0 1).trans rfl
      have hq2 := blk_free hq0 1
      have HQ0 := Lib.hid hq0
      simp only [List.getElem?_toArray, List.getElem?_cons_zero, List.getElem?_cons_succ] at hq1
      have hgp2 := Lib.hid hgp
      clear hq0 hgp
      go_wp2
      go_end0
      have ho := HO6.out.setByte d y (List.getElem?_eq_some_iff.1 HX1.out).1
      rw [← HX3.out] at ho
      refine ⟨rfl, wr_fin HKP.out ((KW6.out.mono fun _ _ h => h.elim).trans' ((Kp.refl (fun k => k = g5) w6).setCell (p := ⟨g5, d, none⟩) (fun _ => rfl) _) (fun k _ e => by subst e; exact VO.out _ rfl)) HQ0.out ho (fun g hg => by have := hgp2.out; simp [Value.ownBlock] at hg; omega) HPO.out VO.out (by rw [HNN.out]; simp)⟩
end Go.Proofs.Ytnejjjoedmefkaa
