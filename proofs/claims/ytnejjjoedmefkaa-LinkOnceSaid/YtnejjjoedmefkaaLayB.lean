/- link.Lay: all packets. -/
import Derived.Test.YtnejjjoedmefkaaLay
namespace Go.Proofs.Ytnejjjoedmefkaa
set_option linter.unusedVariables false
set_option linter.unusedSimpArgs false
open Go.RowKit

theorem layBad_cases (h : Bool) (n : Nat) (d : List Nat) :
    (200 < d.length ∧ layBad h n d = 4) ∨ (d.length ≤ 200 ∧ n = 18446744073709551615 ∧ layBad h n d = 4) ∨ (d.length ≤ 200 ∧ n ≠ 18446744073709551615 ∧ h = true ∧ d ≠ [] ∧ layBad h n d = 140) ∨ (d.length ≤ 200 ∧ n ≠ 18446744073709551615 ∧ (h = true → d = []) ∧ layBad h n d = 0) := by
  unfold layBad
  by_cases c1 : 200 < d.length
  · exact .inl ⟨c1, if_pos (.inl c1)⟩
  · by_cases c2 : n = 18446744073709551615
    · exact .inr (.inl ⟨by omega, c2, if_pos (.inr c2)⟩)
    · rw [if_neg (fun h => by rcases h with h | h; exact c1 h; exact c2 h)]
      by_cases c3 : h = true ∧ d ≠ []
      · exact .inr (.inr (.inl ⟨by omega, c2, c3.1, c3.2, if_pos c3⟩))
      · refine .inr (.inr (.inr ⟨by omega, c2, fun hh => ?_, if_neg c3⟩))
        by_cases hd : d = []
        · exact hd
        · exact absurd ⟨hh, hd⟩ c3

set_option maxRecDepth 100000 in
theorem lay_any {w : World} {v : Value} {d : List Nat} (hv : Rd BK w v d) (h : Bool) (n : Nat) (hn : n < 18446744073709551616) (hdx : ∀ x ∈ d, x < 256) :
    Calls Try.prog 11 #[.agg #[.bool h, .int .u64 (n : Int), v]] w (BytesE (layL h n d) (layBad h n d) w) := by
  rcases layBad_cases h n d with ⟨c1, hb⟩ | ⟨c1, c2, hb⟩ | ⟨c1, c2, c3, c4, hb⟩ | ⟨c1, c2, c3, hb⟩
  · have hl : layL h n d = [] := by unfold layL; rw [hb]; rfl
    rw [hl, hb]
    obtain ⟨A, cap, rfl⟩ := hv.shape
    have c1I : (200 : Int) < (d.length : Int) := by omega
    clear hl hb hn hdx hv c1
    go_enter Try.func11, Try.ntmps11
    go_wp2
    go_ret2
    exact ⟨.slice none 0 0, rfl, (NewS.nil _ _ _).alloc _⟩
  · have hl : layL h n d = [] := by unfold layL; rw [hb]; rfl
    rw [hl, hb]
    obtain ⟨A, cap, rfl⟩ := hv.shape
    have c1I : ¬ (200 : Int) < (d.length : Int) := by omega
    have c2I : ((n : Int) == 18446744073709551615) = true := by rw [c2]; rfl
    clear hl hb hn hdx hv c1 c2
    go_enter Try.func11, Try.ntmps11
    go_wp2
    go_ret2
    exact ⟨.slice none 0 0, rfl, (NewS.nil _ _ _).alloc _⟩
  · have hl : layL h n d = [] := by unfold layL; rw [hb]; rfl
    rw [hl, hb]
    obtain ⟨A, cap, rfl⟩ := hv.shape
    subst c3
    have c1I : ¬ (200 : Int) < (d.length : Int) := by omega
    have c2I : ((n : Int) == 18446744073709551615) = false := by rw [beq_eq_false_iff_ne]; omega
    have c4I : (0 : Int) < (d.length : Int) := by have h0 : d.length ≠ 0 := (fun e => c4 (List.eq_nil_of_length_eq_zero e)); omega
    clear hl hb hn hdx hv c1 c2 c4
    go_enter Try.func11, Try.ntmps11
    go_wp2
    go_ret2
    exact ⟨.slice none 0 0, rfl, (NewS.nil _ _ _).alloc _⟩
  · have hl : layL h n d = frameP (packB (layBits h n d)) := by unfold layL; rw [hb]; rfl
    rw [hl, hb]
    exact lay_good hv h n (by omega) c1 hdx c3

set_option maxRecDepth 100000 in
theorem rlay_bad {w : World} {v : Value} {d : List Nat} (hv : Rd BK w v d) (h : Bool) (n : Nat) (hb0 : layBad h n d ≠ 0) :
    Calls Try.prog 12 #[.agg #[.bool h, .int .u64 (n : Int), v]] w (BytesE (layL h n d) (layBad h n d) w) := by
  have hl : layL h n d = [] := by unfold layL; rw [if_neg hb0]
  rcases layBad_cases h n d with ⟨c1, hb⟩ | ⟨c1, c2, hb⟩ | ⟨c1, c2, c3, c4, hb⟩ | ⟨c1, c2, c3, hb⟩
  · rw [hl, hb]
    obtain ⟨A, cap, rfl⟩ := hv.shape
    have c1I : (200 : Int) < (d.length : Int) := by omega
    clear hl hb hv c1 hb0
    go_enter Try.func12, Try.ntmps12
    go_wp2
    go_ret2
    exact ⟨.slice none 0 0, rfl, (NewS.nil _ _ _).alloc _⟩
  · rw [hl, hb]
    obtain ⟨A, cap, rfl⟩ := hv.shape
    have c1I : ¬ (200 : Int) < (d.length : Int) := by omega
    have c2I : ((n : Int) == 18446744073709551615) = true := by rw [c2]; rfl
    clear hl hb hv c1 c2 hb0
    go_enter Try.func12, Try.ntmps12
    go_wp2
    go_ret2
    exact ⟨.slice none 0 0, rfl, (NewS.nil _ _ _).alloc _⟩
  · rw [hl, hb]
    obtain ⟨A, cap, rfl⟩ := hv.shape
    subst c3
    have c1I : ¬ (200 : Int) < (d.length : Int) := by omega
    have c2I : ((n : Int) == 18446744073709551615) = false := by rw [beq_eq_false_iff_ne]; omega
    have c4I : (0 : Int) < (d.length : Int) := by have h0 : d.length ≠ 0 := (fun e => c4 (List.eq_nil_of_length_eq_zero e)); omega
    clear hl hb hv c1 c2 c4 hb0
    go_enter Try.func12, Try.ntmps12
    go_wp2
    go_ret2
    exact ⟨.slice none 0 0, rfl, (NewS.nil _ _ _).alloc _⟩
  · exact absurd hb hb0

theorem new_one (w : World) (o : Obj) (h : Bool) : NewS QK 4 (w.alloc o) ((w.alloc o).alloc (.cells #[.bool h] 4)) (.slice (some ⟨w.heap.size + 1, 0, none⟩) 1 1) [h] := by
  have h1 := Own.lit QK 4 (w.alloc o) [.bool h] [h] rfl (by unfold maxLen; simp)
  have e : (w.alloc o).heap.size = w.heap.size + 1 := by simp
  rw [e] at h1
  exact ⟨h1, fun g hg => by simp [Value.ownBlock] at hg; rw [e]; omega, (Kp.refl _ _).alloc _⟩
/-- The bits so far, and the packet's data. -/
def LayQ (w : World) (A : Option Addr) (n cap : Nat) (l : List Bool) (v : Value) (wr : World) : Prop :=
  (∃ W0, w.heap.size < W0.heap.size ∧ Kp No w W0 ∧ NewS QK 4 W0 wr v l) ∧ wr.cell? ⟨w.heap.size, 2, none⟩ = some (.slice A n cap)
theorem LayQ.own {w : World} {A : Option Addr} {n cap : Nat} {l : List Bool} {v : Value} {wr : World} (h : LayQ w A n cap l v wr) : Own QK 4 wr v l := let ⟨⟨_, _, _, h⟩, _⟩ := h; h.own
theorem LayQ.kp {w : World} {A : Option Addr} {n cap : Nat} {l : List Bool} {v : Value} {wr : World} (h : LayQ w A n cap l v wr) : Kp No w wr := let ⟨⟨_, _, k, h⟩, _⟩ := h; k.trans h.kp
theorem LayQ.app {w : World} {A : Option Addr} {n cap : Nat} {l l' : List Bool} {v v' : Value} {wr w1 w' : World} (h : LayQ w A n cap l v wr) (hk : Kp No wr w1) (k1 : Own QK 4 w' v' l') (k2 : Kp (fun k => v.ownBlock = some k) w1 w') (k3 : ∀ g, v'.ownBlock = some g → v.ownBlock = some g ∨ w1.heap.size ≤ g) : LayQ w A n cap l' v' w' := by
  obtain ⟨⟨W0, h1, h2, h3⟩, h4⟩ := h
  refine ⟨⟨W0, h1, h2, h3.app hk k1 k2 k3 hk.size⟩, k2.cellS (hk.cellS h4 (no_no _)) fun e => ?_⟩
  have e' : W0.heap.size ≤ w.heap.size := h3.ge _ e
  omega
theorem LayQ.start {w w1 : World} {h : Bool} {x : Value} {A : Option Addr} {n cap : Nat} (hk : Kp No ((w.alloc (.cells #[.bool h, x, .slice A n cap] 25)).alloc (.cells #[.bool h] 4)) w1) : LayQ w A n cap [h] (.slice (some ⟨w.heap.size + 1, 0, none⟩) 1 1) w1 :=
  ⟨⟨_, by simp, (Kp.refl _ _).alloc _, (new_one w _ _).kpNo hk⟩, hk.cellS ((blk_cell (blk_alloc (blk_new w _) _) 2).trans rfl) (no_no _)⟩

set_option maxHeartbeats 400000 in
set_option maxRecDepth 100000 in
theorem rlay_good {w : World} {v : Value} {d : List Nat} (hv : Rd BK w v d) (h : Bool) (n : Nat) (hn : n < 18446744073709551615) (hd : d.length ≤ 200) (hdx : ∀ x ∈ d, x < 256) (hh : h = true → d = []) :
    Calls Try.prog 12 #[.agg #[.bool h, .int .u64 (n : Int), v]] w (BytesE (frameP (packB (layBits h n d))) 0 w) := by
  obtain ⟨A, cap, rfl⟩ := hv.shape
  have H := Lib.hid hv; have HX := Lib.hid hdx; have HN := Lib.hid hn
  have c1 : ¬ (200 : Int) < (d.length : Int) := by omega
  have c2 : ((n : Int) == 18446744073709551615) = false := by rw [beq_eq_false_iff_ne]; omega
  have hcb := cbits_le n hn
  obtain ⟨LB, hLB⟩ : ∃ LB, LB = layBits h n d := ⟨_, rfl⟩
  have hLBl : LB.length ≤ 1728 := by rw [hLB]; exact layBits_len h n d hn hd
  have HLB := Lib.hid hLB
  have hpl : (packB LB).length ≤ 1000 := by rw [packB_len]; omega
  have hfe : frameE (packB LB) = 0 := by simp [frameE, hpl]
  have hfl : frameL (packB LB) = frameP (packB LB) := by simp [frameL, hpl]
  have HFE := Lib.hid hfe; have HFL := Lib.hid hfl; have HPL := Lib.hid hpl
  have hdh : h = true → ¬ 0 < d.length := fun e => by rw [hh e]; simp
  have HBX := Lib.hid (blk_new w (.cells #[.bool h, .int .u64 (n : Int), .slice A d.length cap] 25))
  obtain ⟨l1, hl1e⟩ : ∃ l1, l1 = [h] ++ cbits n := ⟨_, rfl⟩
  have hl1 : l1.length ≤ 128 := by rw [hl1e, List.length_append, List.length_singleton]; omega
  have HL1 := Lib.hid hl1e
  have HCB := Lib.hid hcb
  clear hv hdx hn hfe hfl hpl hh hl1e hLB hcb
  cases h
  all_goals
    try (replace hdh := hdh rfl)
    go_enter Try.func12, Try.ntmps12
    go_wp2_with fail
    refine (rcountb_any _ n HN.out).mono ?_
    rintro e w1 ⟨v1, rfl, h1⟩
    obtain ⟨A1, cap1, rfl⟩ := h1.own.rd.shape
    have Q0 := Lib.hid (LayQ.start h1.kp)
    have H1 := Lib.hid h1
    have hcb1 : (cbits n).length ≤ 127 := HCB.out
    clear h1 hdh
    go_wp2_with (at_builtin; refine wpl_append elQ rfl (.tmp 26) (.tmp 29) rfl rfl rfl (m := cbits n) Q0.out.own H1.out.own.rd ?c3 ?c4 ?c5)
    case c3 => show 1 + (cbits n).length ≤ maxLen; unfold maxLen; omega
    case c4 => show (1 + (cbits n).length) * 1 ≤ _; omega
    case c5 =>
      intro v2 w2 k1 k2 k3
      have q2 : LayQ w A d.length cap l1 v2 w2 := by rw [HL1.out]; exact Q0.out.app (Kp.refl _ _) k1 k2 k3
      obtain ⟨A2, cap2, rfl⟩ := q2.own.rd.shape
      have Q2 := Lib.hid q2
      clear k1 k2 k3 q2
      go_wp2
      go_loopw [4, 5] (fun v i wr => ∃ k : Nat, i = .int .i64 k ∧ k ≤ d.length ∧ LayQ w A d.length cap (l1 ++ unpackB (d.take k)) v wr) (fun _ i _ => d.length - (intOf i).toNat)
      case atStart => exact ⟨0, rfl, by omega, by have := Q2.out; simpa [unpackB] using this⟩
      case round =>
        obtain ⟨k, rfl, hk, hq⟩ := hrel
        obtain ⟨A3, cap3, rfl⟩ := hq.own.rd.shape
        have hbc := hq.2
        have HQ := Lib.hid hq
        clear hq
        by_cases hlt : k < d.length
        · obtain ⟨x, hx⟩ : ∃ x, d[k]? = some x := ⟨_, List.getElem?_eq_getElem hlt⟩
          have hx256 := HX.out x (List.mem_of_getElem? hx)
          have hsn := unpackB_snoc d k x hx
          have hul : (l1 ++ unpackB (d.take k)).length ≤ 1728 := by rw [List.length_append, unpackB_len2, List.length_take]; omega
          rcases H.out with ⟨hv, he⟩ | ⟨g, o, cap', hv, _⟩
          · rw [he] at hlt; simp at hlt
          simp only [Value.slice.injEq] at hv
          obtain ⟨rfl, _, rfl⟩ := hv
          have hxc := (H.out.kpNo HQ.out.kp).byteAt hx
          have hltI : (k : Int) < (d.length : Int) := by omega
          have hwk : IntKind.i64.wrap ((k : Int) + 1) = (k : Int) + 1 := IntWalk.i64_in _ (by omega)
          have hwx : IntKind.u64.wrap (x : Int) = (x : Int) := IntWalk.u64_in _ (by omega)
          obtain ⟨t, ht⟩ : ∃ t, t = l1 ++ unpackB (d.take k) := ⟨_, rfl⟩
          rw [← ht] at hul HQ ⊢
          have HSN := Lib.hid (show l1 ++ unpackB (d.take (k + 1)) = t ++ nbits x 8 by rw [ht, hsn, List.append_assoc])
          clear hx hlt hsn ht
          go_wp2_with fail
          refine (rbits_any _ x 8 (by omega) (by decide) _ 8 rfl rfl).mono ?_
          rintro e w5 ⟨v5, rfl, h5⟩
          obtain ⟨A5, cap5, rfl⟩ := h5.own.rd.shape
          have H5 := Lib.hid h5
          have hl5 : (nbits x 8).length ≤ 8 := by rw [nbits_len]; omega
          clear h5
          generalize nbits x 8 = s5 at *
          go_wp2_with (at_builtin; refine wpl_append elQ rfl (.tmp 38) (.tmp 45) rfl rfl rfl (l := t) (m := s5) (HQ.out.own.kpNo H5.out.kp) H5.out.own.rd ?d3 ?d4 ?d5)
          case d3 => unfold maxLen; omega
          case d4 => omega
          case d5 =>
            intro v6 w6 k1 k2 k3
            have q6 := HQ.out.app H5.out.kp k1 k2 k3
            rw [← HSN.out] at q6
            have Q6 := Lib.hid q6
            clear k1 k2 k3 q6
            go_wp2
            go_roundw
            case rel => exact ⟨k + 1, by go_num, by omega, Q6.out⟩
            case measure => simp [intOf]; omega
        · obtain rfl : k = d.length := by omega
          have hd0 : ¬ (d.length : Int) < (d.length : Int) := by omega
          have q6 := HQ.out
          rw [List.take_length] at q6 ⊢
          have hLB : l1 ++ unpackB d = LB := by rw [HLB.out, HL1.out]; rfl
          rw [hLB] at q6 ⊢
          have Q6 := Lib.hid q6
          clear q6 hlt hLB HQ
          go_wp2_with fail
          refine (rbytes_any Q6.out.own.rd (Nat.le_trans hLBl (by decide))).mono ?_
          rintro e w7 ⟨v7, rfl, k7⟩
          obtain ⟨A7, c7, rfl⟩ := k7.own.rd.shape
          have K7 := Lib.hid k7
          clear k7
          go_wp2_with fail
          refine (rframe_any K7.out.own.rd (Nat.le_trans HPL.out (by decide)) (packB_lt _)).mono ?_
          rintro e w8 ⟨v8, rfl, k8⟩
          rw [HFE.out]
          rw [HFL.out] at k8
          have kk : Kp No w w7 := Q6.out.kp.trans K7.out.kp
          have hk8 : NewS BK 5 w w8 v8 _ := ⟨k8.own, fun g hg => Nat.le_trans kk.size (k8.ge g hg), kk.trans k8.kp⟩
          obtain ⟨A8, c8, rfl⟩ := hk8.own.rd.shape
          have K8 := Lib.hid hk8
          clear k8 hk8 kk
          go_wp2
          go_ret2
          exact ⟨.slice A8 (frameP (packB LB)).length c8, rfl, by rw [← HLB.out]; exact K8.out⟩

theorem rlay_any {w : World} {v : Value} {d : List Nat} (hv : Rd BK w v d) (h : Bool) (n : Nat) (hn : n < 18446744073709551616) (hdx : ∀ x ∈ d, x < 256) :
    Calls Try.prog 12 #[.agg #[.bool h, .int .u64 (n : Int), v]] w (BytesE (layL h n d) (layBad h n d) w) := by
  rcases layBad_cases h n d with ⟨c1, hb⟩ | ⟨c1, c2, hb⟩ | ⟨c1, c2, c3, c4, hb⟩ | ⟨c1, c2, c3, hb⟩
  · exact rlay_bad hv h n (by rw [hb]; decide)
  · exact rlay_bad hv h n (by rw [hb]; decide)
  · exact rlay_bad hv h n (by rw [hb]; decide)
  · have hl : layL h n d = frameP (packB (layBits h n d)) := by unfold layL; rw [hb]; rfl
    rw [hl, hb]
    exact rlay_good hv h n (by omega) c1 hdx c3
end Go.Proofs.Ytnejjjoedmefkaa
