/- link.Lay: the walk. -/
import Derived.Test.YtnejjjoedmefkaaFrmQ
namespace Go.Proofs.Ytnejjjoedmefkaa
set_option linter.unusedVariables false
set_option linter.unusedSimpArgs false
open Go.RowKit

def layBits (h : Bool) (n : Nat) (d : List Nat) : List Bool := ([h] ++ cbits n) ++ unpackB d
def layBad (h : Bool) (n : Nat) (d : List Nat) : Int := if 200 < d.length ∨ n = 18446744073709551615 then 4 else if h = true ∧ d ≠ [] then 140 else 0
def layL (h : Bool) (n : Nat) (d : List Nat) : List Nat := if layBad h n d = 0 then frameP (packB (layBits h n d)) else []
theorem blen_le64 (m : Nat) (h : m < 18446744073709551616) : blen m ≤ 64 := @blen_le m 64 (by omega)
theorem cbits_le (n : Nat) (hn : n < 18446744073709551615) : (cbits n).length ≤ 127 := by
  have := blen_le64 (n + 1) (by omega)
  rw [cbits_len]; omega
theorem layBits_len (h : Bool) (n : Nat) (d : List Nat) (hn : n < 18446744073709551615) (hd : d.length ≤ 200) : (layBits h n d).length ≤ 1728 := by
  unfold layBits
  have := cbits_le n hn
  simp only [List.length_append, List.length_cons, List.length_nil, unpackB_len2]; omega

theorem newW_p (w : World) : Calls Try.prog 35 #[] w fun e w' => ∃ p, e = .returned (.pointer (some ⟨p, 0, none⟩)) ∧ AtW w p [] w' := (newW_any w).mono fun _ _ h => ⟨_, h⟩
theorem AtW.low {w w0 w' : World} {p : Nat} {l : List Bool} (h : AtW w0 p l w') (hk : Kp No w w0) : AtW w p l w' := by
  obtain ⟨V, h⟩ := h
  exact ⟨V, h.blk, h.own, h.ne, hk.trans h.kp, Nat.le_trans hk.size h.po, fun g hg => Nat.le_trans hk.size (h.vo g hg)⟩

set_option maxRecDepth 100000 in
theorem lay_good {w : World} {v : Value} {d : List Nat} (hv : Rd BK w v d) (h : Bool) (n : Nat) (hn : n < 18446744073709551615) (hd : d.length ≤ 200) (hdx : ∀ x ∈ d, x < 256) (hh : h = true → d = []) :
    Calls Try.prog 11 #[.agg #[.bool h, .int .u64 (n : Int), v]] w (BytesE (frameP (packB (layBits h n d))) 0 w) := by
  obtain ⟨A, cap, rfl⟩ := hv.shape
  have H := Lib.hid hv; have HX := Lib.hid hdx; have HN := Lib.hid hn
  have c1 : ¬ (200 : Int) < (d.length : Int) := by omega
  have c2 : ((n : Int) == 18446744073709551615) = false := by rw [beq_eq_false_iff_ne]; omega
  have hcb := cbits_le n hn
  obtain ⟨LB, hLB⟩ : ∃ LB, LB = layBits h n d := ⟨_, rfl⟩
  have hLBl : LB.length ≤ 1728 := by rw [hLB]; exact layBits_len h n d hn hd
  have HLB := Lib.hid hLB
  have hpl : (packB LB).length ≤ 1000 := by rw [packB_len]; omega
  have hfe : frameE (packB LB) = 0 := by simp [frameE, hpl]
  have hfl : frameL (packB LB) = frameP (packB LB) := by simp [frameL, hpl]
  have HFE := Lib.hid hfe; have HFL := Lib.hid hfl; have HPL := Lib.hid hpl
  obtain ⟨k0, hk0⟩ : ∃ k0, k0 = h.toNat := ⟨_, rfl⟩
  have hdh : h = true → ¬ (0 : Int) < (d.length : Int) := fun e => by rw [hh e]; simp
  have HBX := Lib.hid (blk_new w (.cells #[.bool h, .int .u64 (n : Int), .slice A d.length cap] 25))
  have hl1 : ([h] ++ cbits n).length ≤ 128 := by rw [List.length_append, List.length_singleton]; omega
  obtain ⟨l1, hl1e⟩ : ∃ l1, l1 = [h] ++ cbits n := ⟨_, rfl⟩
  rw [← hl1e] at hl1
  have HL1 := Lib.hid hl1e
  have HHB : Hid (nbits h.toNat 1 = [h]) := by cases h <;> rfl
  clear hv hdx hn hfe hfl hpl hh hk0 hl1e hLB
  cases h
  all_goals
    try (have hdh := hdh rfl)
    go_enter Try.func11, Try.ntmps11
    go_wp2_with fail
    refine (newW_p _).mono ?_
    rintro e w1 ⟨p, rfl, a1⟩
    have A1 := Lib.hid a1
    have B1 := a1.kp.blk HBX.out (no_no _)
    have b10 := blk_cell B1 0
    simp only [List.getElem?_toArray, List.getElem?_cons_zero] at b10
    have BB1 := Lib.hid B1
    clear a1 B1
    go_wp2_with fail
    first
      | (with_reducible refine (put_at A1.out 0 1 (by decide) (by decide) (by simp) 0 1 rfl rfl).mono ?_)
      | (with_reducible refine (put_at A1.out 1 1 (by decide) (by decide) (by simp) 1 1 rfl rfl).mono ?_)
    rintro e w2 ⟨rfl, a2⟩
    have b21 : w2.cell? ⟨w.heap.size, 1, none⟩ = some (.int .u64 (n : Int)) := a2.kp.cellS ((blk_cell HBX.out 1).trans rfl) (no_no _)
    have A2 := Lib.hid a2
    clear a2 b10 BB1
    go_wp2_with fail
    refine (wcount_any A2.out n HN.out (by rw [List.nil_append, nbits_len]; decide)).mono ?_
    rintro e w3 ⟨rfl, a3⟩
    have b32 : w3.cell? ⟨w.heap.size, 2, none⟩ = some (.slice A d.length cap) := a3.kp.cellS ((blk_cell HBX.out 2).trans rfl) (no_no _)
    have a3 : AtW w p l1 w3 := by
      rw [HL1.out]
      exact a3.low ((Kp.refl _ _).alloc _)
    have A3 := Lib.hid a3
    clear a3 b21
    go_wp2
    go_loopw [43] (fun i wr => ∃ k : Nat, i = .int .i64 k ∧ k ≤ d.length ∧ AtW w p (l1 ++ unpackB (d.take k)) wr) (fun i _ => d.length - (intOf i).toNat)
    case atStart => exact ⟨0, rfl, by omega, by have := A3.out; simpa [unpackB] using this⟩
    case round =>
      obtain ⟨k, rfl, hk, hat⟩ := hrel
      have HAT := Lib.hid hat
      clear hat
      by_cases hlt : k < d.length
      · obtain ⟨x, hx⟩ : ∃ x, d[k]? = some x := ⟨_, List.getElem?_eq_getElem hlt⟩
        have hx256 := HX.out x (List.mem_of_getElem? hx)
        have HSN := Lib.hid (unpackB_snoc d k x hx)
        have hul : (l1 ++ unpackB (d.take k)).length + 8 ≤ 1048576 := by rw [List.length_append, unpackB_len2, List.length_take]; omega
        rcases H.out with ⟨hv, he⟩ | ⟨g, o, cap', hv, _⟩
        · rw [he] at hlt; simp at hlt
        simp only [Value.slice.injEq] at hv
        obtain ⟨rfl, _, rfl⟩ := hv
        have hxc := (H.out.kpNo HAT.out.kp).byteAt hx
        have hltI : (k : Int) < (d.length : Int) := by omega
        have hwk : IntKind.i64.wrap ((k : Int) + 1) = (k : Int) + 1 := IntWalk.i64_in _ (by omega)
        have hwx : IntKind.u64.wrap (x : Int) = (x : Int) := IntWalk.u64_in _ (by omega)
        have HUL := Lib.hid hul
        clear hx hlt hul
        go_wp2_with fail
        refine (put_at HAT.out x 8 (by omega) (by decide) HUL.out _ 8 rfl rfl).mono ?_
        rintro e w5 ⟨rfl, a5⟩
        rw [List.append_assoc, ← HSN.out] at a5
        have A5 := Lib.hid a5
        clear a5
        go_wp2
        go_roundw
        case rel => exact ⟨k + 1, by go_num, by omega, A5.out⟩
        case measure => simp [intOf]; omega
      · obtain rfl : k = d.length := by omega
        have hd0 : ¬ (d.length : Int) < (d.length : Int) := by omega
        have a6 := HAT.out
        rw [List.take_length, HL1.out] at a6
        have a6' : AtW w p LB wr := by rw [HLB.out]; exact a6
        have A6 := Lib.hid a6'
        clear a6 a6' hlt
        go_wp2_with fail
        refine (out_any A6.out (Nat.le_trans hLBl (by decide))).mono ?_
        rintro e w7 ⟨v7, rfl, k1, k2, k3⟩
        obtain ⟨A7, c7, rfl⟩ := k1.rd.shape
        have K1 := Lib.hid k1; have K2 := Lib.hid k2
        clear k1 k2 k3
        go_wp2_with fail
        refine (frame_any K1.out.rd (Nat.le_trans HPL.out (by decide)) (packB_lt _)).mono ?_
        rintro e w8 ⟨v8, rfl, k8⟩
        rw [HFE.out]
        rw [HFL.out] at k8
        have hk8 : NewS BK 5 w w8 v8 _ := ⟨k8.own, fun g hg => Nat.le_trans (A6.out.kp.trans K2.out).size (k8.ge g hg), (A6.out.kp.trans K2.out).trans k8.kp⟩
        obtain ⟨A8, c8, rfl⟩ := hk8.own.rd.shape
        have K8 := Lib.hid hk8
        clear k8 hk8
        go_wp2
        go_ret2
        exact ⟨.slice A8 (frameP (packB LB)).length c8, rfl, by rw [← HLB.out]; exact K8.out⟩
end Go.Proofs.Ytnejjjoedmefkaa
