/- carfaxref01: Of, the walk. -/
import Derived.Test.YtnejjjoedmefkaaRefF
import Derived.Deep.RegionLaw
namespace Go.Proofs.Ytnejjjoedmefkaa
set_option linter.unusedVariables false
set_option linter.unusedSimpArgs false
open Go.RowKit

theorem unpackB_snoc (B : List Nat) (k x : Nat) (h : B[k]? = some x) : unpackB (B.take (k + 1)) = unpackB (B.take k) ++ nbits x 8 := by
  rw [List.take_add_one, h]
  simp [unpackB]

theorem QdV.app {w0 w w1 w6 : World} {p : Nat} {L L' : List Bool} {n : Nat} {f : Int} {V V' : Value} (h : QdV w0 p L n f w V) (hk : Kp No w w1) (k1 : Own QK 4 w6 V' L') (k2 : Kp (fun k => V.ownBlock = some k) w1 w6) (k3 : ∀ g, V'.ownBlock = some g → V.ownBlock = some g ∨ w1.heap.size ≤ g) :
    NewQ w0 p L' n f (w6.setCell ⟨p, 0, none⟩ V') := by
  have hb := hk.blk h.blk (no_no _)
  have hb6 := k2.blk hb (fun e => h.ne _ e rfl)
  have hpw := lt_of_block h.blk
  have hs := hk.size
  have hs0 := h.kp.size
  have hne : ∀ g, V'.ownBlock = some g → g ≠ p := fun g hg => by
    rcases k3 g hg with e | e
    · exact h.ne g e
    · omega
  have hks := (Kp.refl (fun k => k = p) w6).setCell (p := ⟨p, 0, none⟩) (fun _ => rfl) V'
  refine ⟨V', (blk_set hb6 0 _).trans rfl, k1.kp hks hne, hne, ((h.kp.no hk).trans' k2 (fun k hk e => by have := h.vo k e; omega)).trans' hks (fun k hk e => by subst e; have := h.po; omega), h.po, fun g hg => ?_⟩
  rcases k3 g hg with e | e
  · exact h.vo g e
  · omega

set_option maxHeartbeats 1000000 in
set_option maxRecDepth 100000 in
theorem rof_any {w : World} {v : Value} {B : List Nat} (h : Rd BK w v B) (hB : B.length ≤ 100000) (hBx : ∀ x ∈ B, x < 256) : Calls Try.prog 51 #[v] w fun e w' => ∃ p, e = .returned (.pointer (some ⟨p, 0, none⟩)) ∧ NewQ w p (unpackB B) 0 0 w' := by
  obtain ⟨A, cap, rfl⟩ := h.shape
  have H := Lib.hid h
  have HX := Lib.hid hBx
  clear h hBx
  go_enter Try.func51, Try.ntmps51
  go_wp2
  go_loopw [4] (fun i wr => ∃ k : Nat, i = .int .i64 k ∧ k ≤ B.length ∧ NewQ w w.heap.size (unpackB (B.take k)) 0 0 wr) (fun i _ => B.length - (intOf i).toNat)
  case atStart => exact ⟨0, rfl, by omega, .slice none 0 0, blk_new w _, Own.nil _ _ _, by simp [Value.ownBlock], (Kp.refl _ _).alloc _, Nat.le_refl _, by simp [Value.ownBlock]⟩
  case round =>
    obtain ⟨k, rfl, hk, hq⟩ := hrel
    by_cases hlt : k < B.length
    · obtain ⟨V, hq⟩ := hq
      obtain ⟨A1, cap1, rfl⟩ := hq.own.rd.shape
      obtain ⟨x, hx⟩ : ∃ x, B[k]? = some x := ⟨_, List.getElem?_eq_getElem hlt⟩
      have hx256 := HX.out x (List.mem_of_getElem? hx)
      have HR := Lib.hid (H.out.kpNo hq.kp)
      rcases H.out with ⟨hv, he⟩ | ⟨g, o, cap', hv, _⟩
      · rw [he] at hlt; simp at hlt
      simp only [Value.slice.injEq] at hv
      obtain ⟨rfl, _, rfl⟩ := hv
      have hxc := HR.out.byteAt hx
      have hgl : g < w.heap.size := World.block_lt_of_cell? w _ (H.out.byteAt hx)
      have hbc := (blk_cell hq.blk 0).trans rfl
      simp only [List.getElem?_toArray, List.getElem?_cons_zero] at hbc
      have HQ := Lib.hid hq
      have HSN := Lib.hid (unpackB_snoc B k x hx)
      have hul := unpackB_len (B.take k)
      have hul2 : (unpackB (B.take k)).length ≤ 800000 := by rw [hul, List.length_take]; omega
      have hltI : (k : Int) < (B.length : Int) := by omega
      have hwk : IntKind.i64.wrap ((k : Int) + 1) = (k : Int) + 1 := IntWalk.i64_in _ (by omega)
      have hwx : IntKind.u64.wrap (x : Int) = (x : Int) := IntWalk.u64_in _ (by omega)
      generalize unpackB (B.take k) = t at *
      have hl5 : (nbits x 8).length ≤ 8 := by rw [nbits_len]; omega
      have b1 : t.length + (nbits x 8).length ≤ maxLen := by unfold maxLen; omega
      have b2 : (t.length + (nbits x 8).length) * 1 ≤ 140737488355328 := by omega
      have RB := Lib.hid (fun w => rbits_any w x 8 (by omega) (by decide) (x : Int) 8 rfl rfl)
      clear hx hq hlt hul
      go_wp2
      go_region_law (first
          | (refine stp_append elQ rfl (.tmp 17) (.tmp 23) rfl rfl rfl (l := t) (m := nbits x 8) (HQ.out.own.kpNo K5.out) HV5.out.own.rd b1 b2 ?_; intro v6 w6 m1 m2 m3; obtain ⟨A6, cap6, rfl⟩ := m1.rd.shape; have c3 := m2.cellS c1 (fun e => HQ.out.ne _ e rfl); have hf6 := blk_free (m2.blk (K5.out.blk HQ.out.blk (no_no _)) (fun e => HQ.out.ne _ e rfl)) 0; have HF := Lib.hid (HQ.out.app K5.out m1 m2 m3); clear m1 m2 m3)
          | (go_simp; go_at_call 41; refine (RB.out wr.drew).mono ?_; rintro e w5 ⟨v5, rfl, hv5⟩; obtain ⟨A5, cap5, rfl⟩ := hv5.own.rd.shape; have k5 := hv5.kp.ofDrew; have c1 := k5.cellS hbc (no_no _); have c2 := k5.cellS hxc (no_no _); have K5 := Lib.hid k5; have HV5 := Lib.hid hv5; clear hv5 k5))
      all_goals
        go_wp2
        go_roundw
        case rel => exact ⟨k + 1, by go_num, by omega, by rw [HSN.out]; have q := HF.out; rw [List.length_append] at q; exact q⟩
        case measure => simp [intOf]; omega
    · obtain rfl : k = B.length := by omega
      have HQ := Lib.hid hq
      clear hq
      have hd0 : ¬ (B.length : Int) < (B.length : Int) := by omega
      go_wp2
      go_ret
      exact ⟨_, rfl, by have := HQ.out; rwa [List.take_length] at this⟩
end Go.Proofs.Ytnejjjoedmefkaa
