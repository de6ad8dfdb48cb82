/- LinkOnce: the closure that hears. -/
import Derived.Test.YtnejjjoedmefkaaOnS
namespace Go.Proofs.Ytnejjjoedmefkaa
set_option linter.unusedVariables false
set_option linter.unusedSimpArgs false
open Go.RowKit

theorem rd_oneS (w : World) (x : List Nat) : Rd STK (w.alloc (.cells #[.string (strB x)] 9)) (.slice (some ⟨w.heap.size, 0, none⟩) 1 1) [x] :=
  Rd.litAt STK 9 w #[.string (strB x)] [x] rfl (by unfold maxLen; simp) _ 1 rfl rfl

/-- Behind the closure. -/
def HearsR (w : World) (ps pr pt pf bh br bf k n : Nat) (on : Bool) (d : List Nat) (V Vt Tv : Value) (T : List (List Nat)) (to : List SlH) (e : Ending) (w' : World) : Prop :=
  e = .returned (.tuple #[]) ∧ ∃ Vf Hv H fr, OnS w ps pr pt pf bh br bf n on d V Vt Vf Tv Hv T H to fr w' ∧ OnP (k + 1) n on d T H to fr

set_option maxHeartbeats 1000000 in
set_option maxRecDepth 100000 in
theorem hears_any {w wr : World} {ps pr pt pf bh br bf k n : Nat} {on : Bool} {d : List Nat} {V Vt Vf Tv Hv v : Value} {T H : List (List Nat)} {to fr : List SlH} (P : OnS w ps pr pt pf bh br bf n on d V Vt Vf Tv Hv T H to fr wr) (B : OnB w ps pr pt pf bh br bf) (Q : OnP k n on d T H to fr) (hk : k < 1000)
    {F : List Nat} (hv : Rd BK wr v F) (b : Bool) (hF : b = true → ∃ i e, T[i]? = some e ∧ F = layL false (i + 1) e) :
    Calls Try.prog 30 #[v, .bool b, .pointer (some ⟨br, 0, none⟩), .pointer (some ⟨bh, 0, none⟩), .pointer (some ⟨bf, 0, none⟩)] wr (HearsR w ps pr pt pf bh br bf k n on d V Vt Tv T to) := by
  obtain ⟨A, cap, rfl⟩ := hv.shape
  have PP := Lib.hid P; have BB := Lib.hid B; have QQ := Lib.hid Q; have HV := Lib.hid hv
  have c0 : wr.cell? ⟨br, 0, none⟩ = some (.pointer (some ⟨pr, 0, none⟩)) := (blk_cell P.rb 0).trans rfl
  cases b with
  | false =>
    clear hF P B Q hv
    go_enter Try.func30, Try.ntmps30
    go_wp2
    go_end0
    exact ⟨rfl, Vf, Hv, H, fr, PP.out, QQ.out.more hk⟩
  | true =>
    obtain ⟨i, e, h1, h2⟩ := hF rfl
    have C := Q.come h1 h2
    have hb := Q.bnd e (List.mem_of_getElem? h1)
    have hi := (List.getElem?_eq_some_iff.1 h1).1
    have htl := Q.tl
    have hFl : F.length ≤ 1000000 := by rw [h2]; exact Nat.le_trans (layL_len _ _ _ (by omega)) (by decide)
    have hFx : ∀ x ∈ F, x < 256 := by rw [h2]; exact layL_lt _ _ _
    obtain ⟨G, hG⟩ : ∃ G, G = layL true (i + 1) [] := ⟨_, rfl⟩
    have hGl : G.length ≤ 1000000 := by rw [hG]; exact Nat.le_trans (layL_len _ _ _ (by omega)) (by decide)
    have hGp : 0 < G.length := by rw [hG]; exact layT_pos _ (by omega)
    have hGI : (0 : Int) < (G.length : Int) := by omega
    have HGX := Lib.hid (show ∀ x ∈ G, x < 256 by rw [hG]; exact layL_lt _ _ _)
    have HG := Lib.hid hG; have HFX := Lib.hid hFx; have CC := Lib.hid C; have H1 := Lib.hid h1; have HB := Lib.hid hb
    have HFR := Lib.hid (show fr.length < 1024 by have := Q.frl; omega)
    have HHL := Lib.hid (show H.length ≤ 1000 by have := Q.le; omega)
    obtain ⟨fb, hfb⟩ : ∃ fb, fb = decide (i = H.length) := ⟨_, rfl⟩
    have HFR2 := Lib.hid (C.fresh.trans hfb.symm)
    have HFB := Lib.hid hfb
    obtain ⟨Ah, ch, hAh⟩ := P.hv.rd.shape
    subst hAh
    clear hF P B Q hv h1 h2 C hb hG hfb hFx
    cases fb with
    | true =>
      have HI := Lib.hid (of_decide_eq_true HFB.out.symm)
      go_enter Try.func30, Try.ntmps30
      go_wp2_with fail
      refine (rhear_any PP.out.r HV.out hFl HFX.out).mono ?_
      rintro x w1 ⟨v1, v2, rfl, k1, r1, o1, o2, g1, g2⟩
      rw [HFR2.out] at r1 o1 ⊢
      rw [CC.out.ack, CC.out.num, ← HG.out] at o2
      rw [if_pos rfl] at r1 o1 o2
      rw [CC.out.nxt] at r1
      rw [CC.out.dat] at o1
      obtain ⟨A1, c1, rfl⟩ := o1.rd.shape
      obtain ⟨A2, c2, rfl⟩ := o2.rd.shape
      have ty := Ty.one PP.out.r.blk
      have d0 : w1.cell? ⟨bh, 0, none⟩ = some (.slice Ah H.length ch) := (blk_cell (k1.blk PP.out.hb (ty.not PP.out.hb (by decide))) 0).trans rfl
      have st1 := o1.rd.str
      have K1 := Lib.hid k1; have R1 := Lib.hid r1; have O1 := Lib.hid o1; have O2 := Lib.hid o2; have G1 := Lib.hid g1; have G2 := Lib.hid g2
      have HV1 := Lib.hid (PP.out.hv.kp k1 (ty.notO PP.out.hv (by decide)))
      have HB1 := Lib.hid (k1.blk PP.out.hb (ty.not PP.out.hb (by decide)))
      clear k1 r1 o1 o2 g1 g2 ty
      go_wp2_with (at_builtin; refine wpl_append elST rfl (.tmp 20) (.tmp 23) rfl rfl rfl (l := H) (m := [e]) ?c1 ?c2 ?c3 ?c4 ?c5)
      case c1 => exact HV1.out.alloc _
      case c2 => exact rd_oneS _ e
      case c3 => unfold maxLen; have := HHL.out; simp; omega
      case c4 => have := HHL.out; simp; omega
      case c5 =>
        intro v3 w3 m1 m2 m3
        obtain ⟨A3, c3, rfl⟩ := m1.rd.shape
        have b3 := m2.blk (blk_alloc HB1.out _) (fun e => own_neB HV1.out HB1.out (by decide) bh e rfl)
        have d3 : w3.cell? ⟨bh, 0, none⟩ = some (.slice Ah H.length ch) := (blk_cell b3 0).trans rfl
        have f3 : w3.frozen? ⟨bh, 0, none⟩ = false := blk_free b3 0
        have P3 := Lib.hid (PP.out.setH BB.out K1.out R1.out ((Kp.refl No w1).alloc _) m2 m1 (fun g hg => (m3 g hg).imp id fun h => by simpa using h))
        have O23 := Lib.hid ((O2.out.alloc (.cells #[.string (strB e)] 9)).kpB m2 (Byt.own (HV1.out.alloc (.cells #[.string (strB e)] 9)) (by decide)))
        clear m1 m2 m3 b3
        have hl3 : (H ++ [e]).length = H.length + 1 := by simp
        have HL3 := Lib.hid hl3
        rw [hl3]
        rw [hl3] at P3
        obtain ⟨w4, hw4⟩ : ∃ w4, w4 = w3.setCell ⟨bh, 0, none⟩ (.slice A3 (H.length + 1) c3) := ⟨_, rfl⟩
        rw [← hw4] at P3
        have O24 : Hid (Own BK 5 w4 (.slice A2 G.length c2) G) := Lib.hid (by
          rw [hw4]
          exact O23.out.kpB (Kp.one 0 _) (fun g cs hg e => by
            have e : g = bh := e
            subst e
            have := P3.out.hb
            rw [hw4] at this
            have h2 := blk_set hg 0 (.slice A3 (H.length + 1) c3)
            rw [h2] at this
            simp at this))
        have d5 : (w3.setCell ⟨bh, 0, none⟩ (.slice A3 (H.length + 1) c3)).cell? ⟨bf, 0, none⟩ = some (.pointer (some ⟨pf, 0, none⟩)) := by
          rw [← hw4]; exact (blk_cell P3.out.fb 0).trans rfl
        have HW4 := Lib.hid hw4
        clear hl3 hw4
        go_wp2_with fail
        rw [← HW4.out]
        refine (send_any P3.out.f O24.out.rd hGl HGX.out).mono ?_
        rintro x w5 (⟨_, rfl, Vf', y, hy, nf, k5, v5⟩ | ⟨h5, _⟩)
        · have P5 := Lib.hid (P3.out.setF BB.out k5 nf v5)
          have Q5 := Lib.hid (QQ.out.fresh hk (by rw [← HI.out]; exact H1.out) y (by rw [hy, ← HI.out]; exact HG.out))
          clear nf k5 v5
          go_wp2
          go_end0
          exact ⟨rfl, _, _, _, _, P5.out, Q5.out⟩
        · exact absurd HFR.out (Nat.not_lt.2 h5)
    | false =>
      have HI := Lib.hid (of_decide_eq_false HFB.out.symm)
      go_enter Try.func30, Try.ntmps30
      go_wp2_with fail
      refine (rhear_any PP.out.r HV.out hFl HFX.out).mono ?_
      rintro x w1 ⟨v1, v2, rfl, k1, r1, o1, o2, g1, g2⟩
      rw [HFR2.out] at r1 o1 ⊢
      rw [CC.out.ack, CC.out.num, ← HG.out] at o2
      rw [if_pos rfl] at o2
      rw [if_neg (by decide)] at r1 o1
      obtain ⟨A1, c1, rfl⟩ := o1.rd.shape
      obtain ⟨A2, c2, rfl⟩ := o2.rd.shape
      have P1 := Lib.hid (PP.out.setR BB.out k1 r1)
      have d5 : w1.cell? ⟨bf, 0, none⟩ = some (.pointer (some ⟨pf, 0, none⟩)) := (blk_cell P1.out.fb 0).trans rfl
      have O2 := Lib.hid o2
      clear k1 r1 o1 o2 g1 g2
      go_wp2_with fail
      refine (send_any P1.out.f O2.out.rd hGl HGX.out).mono ?_
      rintro x w5 (⟨_, rfl, Vf', y, hy, nf, k5, v5⟩ | ⟨h5, _⟩)
      · have P5 := Lib.hid (P1.out.setF BB.out k5 nf v5)
        have Q5 := Lib.hid (QQ.out.again hk H1.out HI.out y (by rw [hy]; exact HG.out))
        clear nf k5 v5
        go_wp2
        go_end0
        exact ⟨rfl, _, _, _, _, P5.out, Q5.out⟩
      · exact absurd HFR.out (Nat.not_lt.2 h5)
end Go.Proofs.Ytnejjjoedmefkaa
