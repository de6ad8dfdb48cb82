/- FloorCounts, the walk. -/
import Derived.Test.YtolkkinophklcaaDoorFlLc
import Derived.Test.YtolkkinophklcaaDoorFlQd
namespace Go.Proofs.YtolkkinophklcaaDoor
set_option linter.unusedVariables false
set_option linter.unusedSimpArgs false
open Go.RowKit

/-! ### Plain -/
def wallsTo (s : ByteArray) (k : Nat) : List Nat := (List.range k).filter fun i => kdS s i == 1
theorem wallsTo_in {s : ByteArray} {k : Nat} (h : kdS s k = 1) : wallsTo s (k + 1) = wallsTo s k ++ [k] := by
  unfold wallsTo; rw [List.range_succ, List.filter_append]; simp [h]
theorem wallsTo_out {s : ByteArray} {k : Nat} (h : kdS s k ≠ 1) : wallsTo s (k + 1) = wallsTo s k := by
  unfold wallsTo; rw [List.range_succ, List.filter_append]; simp [h]
theorem kinds_sum {s : ByteArray} : ∀ k, k ≤ s.size → (∀ i, i < s.size → kdS s i ≠ 0) → (wallsTo s k).length + (docksP s k).length + (lanesTo s k).length = k := by
  intro k
  induction k with
  | zero => intro _ _; rfl
  | succ k ih =>
    intro hk h
    have h0 := h k (by omega)
    have h3 : kdS s k ≤ 3 := kindB_le _
    have := ih (by omega) h
    have hc : kdS s k = 1 ∨ kdS s k = 2 ∨ kdS s k = 3 := by omega
    rcases hc with e | e | e
    · rw [wallsTo_in e, docksP_out (by omega), lanesTo_out (by omega), List.length_append, List.length_singleton]; omega
    · rw [wallsTo_out (by omega), docksP_out (by omega), lanesTo_in e, List.length_append, List.length_singleton]; omega
    · rw [wallsTo_out (by omega), docksP_in e, lanesTo_out (by omega), List.length_append, List.length_singleton]; omega
theorem wallsTo_le (s : ByteArray) (k : Nat) : (wallsTo s k).length ≤ k := by unfold wallsTo; exact Nat.le_trans (List.length_filter_le _ _) (by simp)
noncomputable def byN (f : Flr) (d j : Nat) : Bool := ((nearP f d).take j).any fun x => kdS f.s x == 2
theorem byN_succ {f : Flr} {d j c : Nat} (h : (nearP f d)[j]? = some c) : byN f d (j + 1) = (byN f d j || kdS f.s c == 2) := by
  unfold byN; rw [List.take_add_one, h, List.any_append]; simp
theorem byN_all {f : Flr} {d : Nat} (r : RightP f) (hd : d < f.s.size) (hk : kdS f.s d = 3) : byN f d (nearP f d).length = true := by
  unfold byN
  rw [List.take_length, List.any_eq_true]
  obtain ⟨l, h1, h2⟩ := r.by_ d hd hk
  exact ⟨l, (near_iff r hd).2 ⟨by omega, h1, by rw [h2.2]; decide⟩, by simpa using h2.2⟩
/-- Facts on the docks of a right floor, as a list. -/
structure DkF (f : Flr) (D : List Nat) : Prop where
  n : robotsP f = D.length
  at_ : ∀ (r d : Nat), D[r]? = some d → dockP f r = some d ∧ d < f.s.size ∧ kdS f.s d = 3
  nd : D.Nodup
  mem : ∀ x ∈ D, x < f.s.size ∧ kdS f.s x = 3
theorem dkF {f : Flr} (r : RightP f) : ∃ D, DkF f D := by
  obtain ⟨ds, hd⟩ := r.docks
  refine ⟨ds, ?_, fun k d h => ?_, ?_, fun x hx => ?_⟩
  · unfold robotsP; rw [if_pos (rightB_t r)]; exact hd.count.symm
  · obtain ⟨h1, h2, _⟩ := hd.at_ k d h
    refine ⟨?_, h1, h2⟩
    unfold dockP
    rw [if_pos ⟨rightB_t r, by omega⟩, Int.toNat_natCast, hd.find, h]
  · unfold List.Nodup
    rw [List.pairwise_iff_getElem]
    intro i j hi0 hj hij e
    have hi := List.getElem?_eq_getElem hi0
    have hj2 := List.getElem?_eq_getElem hj
    have h1 := (hd.at_ i _ hi).2.2
    have h2 := (hd.at_ j _ hj2).2.2
    rw [e] at h1; omega
  · obtain ⟨k, hk⟩ := List.getElem?_of_mem hx
    obtain ⟨h1, h2, _⟩ := hd.at_ k x hk
    exact ⟨h1, h2⟩
theorem take_not_mem {L : List Nat} (h : L.Nodup) {k x : Nat} (hx : L[k]? = some x) : x ∉ L.take k := by
  intro hm
  obtain ⟨i, hi⟩ := List.getElem?_of_mem hm
  rw [List.getElem?_take] at hi
  split at hi
  · rename_i hik
    have hil := (List.getElem?_eq_some_iff.1 hi).1
    have hkl := (List.getElem?_eq_some_iff.1 hx).1
    have := (List.pairwise_iff_getElem.1 h) i k hil hkl hik
    rw [List.getElem?_eq_getElem hil] at hi
    rw [List.getElem?_eq_getElem hkl] at hx
    simp at hi hx
    exact this (by rw [hi, hx])
  · cases hi
theorem take_snocN {L : List Nat} {k x : Nat} (hx : L[k]? = some x) : L.take (k + 1) = L.take k ++ [x] := by rw [List.take_add_one, hx]; rfl

/-! ### Memory -/
structure CtW (W H : Nat) (s : ByteArray) (b1 bd bl : Nat) (w : World) (D L : List Nat) (wx : World) : Prop where
  bx : BxW (Flr.mk W H s) b1 w wx
  sd : SetI wx bd (ints D)
  sl : SetI wx bl (ints L)
  lt : b1 < bd ∧ bd < bl ∧ w.heap.size ≤ bd
section
variable {W H b1 bd bl : Nat} {s : ByteArray} {w wx w' : World} {D L : List Nat}
theorem CtW.no (h : CtW W H s b1 bd bl w D L wx) (hk : Kp No wx w') : CtW W H s b1 bd bl w D L w' := ⟨h.bx.no hk, h.sd.kp hk (no_no _), h.sl.kp hk (no_no _), h.lt⟩
theorem addS_ints {L : List Nat} {c : Nat} (hc : c ∉ L) : addS (ints L) (c : Int) = ints (L ++ [c]) := by
  unfold addS
  rw [if_neg (fun e => hc (ints_mem.1 e))]; simp [ints]
theorem CtW.addD (h : CtW W H s b1 bd bl w D L wx) {c : Nat} (hc : c ∉ D) : ∃ w', (Instr.mapUpdate 38 (.map (some bd)) (.int .i64 (c : Int)) (.bool true)).run Tryd.prog wx = .ok () w' ∧ CtW W H s b1 bd bl w (D ++ [c]) L w' := by
  obtain ⟨w1, h1, h2, h3⟩ := h.sd.add mapB (c : Int)
  rw [addS_ints hc] at h2
  have hl := h.lt
  exact ⟨w1, h1, ⟨h3.blk h.bx.box (fun e => by have e : b1 = bd := e; omega), h.bx.kp.trans' h3 (fun a ha e => by have e : a = bd := e; omega)⟩, h2, h.sl.kp h3 (fun e => by have e : bl = bd := e; omega), h.lt⟩
theorem CtW.addL (h : CtW W H s b1 bd bl w D L wx) {c : Nat} (hc : c ∉ L) : ∃ w', (Instr.mapUpdate 38 (.map (some bl)) (.int .i64 (c : Int)) (.bool true)).run Tryd.prog wx = .ok () w' ∧ CtW W H s b1 bd bl w D (L ++ [c]) w' := by
  obtain ⟨w1, h1, h2, h3⟩ := h.sl.add mapB (c : Int)
  rw [addS_ints hc] at h2
  have hl := h.lt
  exact ⟨w1, h1, ⟨h3.blk h.bx.box (fun e => by have e : b1 = bl := e; omega), h.bx.kp.trans' h3 (fun a ha e => by have e : a = bl := e; omega)⟩, h.sd.kp h3 (fun e => by have e : bd = bl := e; omega), h2, h.lt⟩
end

set_option maxHeartbeats 4000000 in
set_option maxRecDepth 100000 in
theorem counts_row (s : ByteArray) (hs : s.size ≤ 9223372036854775807) (w : World) : Calls Tryd.prog 7 #[.string s] w (LawR w) := by
  unfold LawR
  have HSH := Lib.hid shown_any
  obtain ⟨n, hn⟩ : ∃ n, n = s.size := ⟨_, rfl⟩
  have hnI : ((s.size : Nat) : Int) = (n : Int) := by omega
  rw [← hn] at hs
  by_cases h : 2000 < n
  · have hI : (2000 : Int) < (n : Int) := by omega
    clear hn h
    go_enter Tryd.func7, Tryd.ntmps7
    go_wp2_with fail
    refine (HSH.out _).mono ?_
    rintro e w1 ⟨rfl, k1⟩
    have K1 := Lib.hid k1
    clear k1
    go_wp2_with fail
    go_ret
    exact ⟨rfl, K1.out⟩
  · have hI : ¬ (2000 : Int) < (n : Int) := by omega
    obtain ⟨⟨⟨X, Y, S⟩, y, er⟩, hr⟩ : ∃ r, parseP s = r := ⟨_, rfl⟩
    have HP := Lib.hid (parse_at s (by omega) _ hr (.tuple #[.agg #[.int .i64 X, .int .i64 Y, .string S], .int .i64 (y : Int), .int .i64 (er : Int)]) rfl)
    have HOK := Lib.hid (show er = 0 → RightP ⟨X, Y, S⟩ from fun h => rightB_iff.1 (by have := parseP_ok (s := s) (by rw [hr]; exact h); rwa [hr] at this))
    clear hn h hr
    by_cases he : er = 0
    · have heb : ((er : Int) != 0) = false := by simp [he]
      have heb2 : (er != 0) = false := by simp [he]
      have hR := HOK.out he
      obtain ⟨W, hW⟩ : ∃ W : Nat, X = W := ⟨X.toNat, by have := hR.w1; simp at this; omega⟩
      obtain ⟨H, hH⟩ : ∃ H : Nat, Y = H := ⟨Y.toNat, by have := hR.h1; simp at this; omega⟩
      subst hW hH
      obtain ⟨f, hf⟩ : ∃ f : Flr, f = ⟨W, H, S⟩ := ⟨_, rfl⟩
      have hlen : (S.size : Int) = (W : Int) * (H : Int) := hR.len
      rw [← hf] at hR
      have hSs : f.s.size ≤ 256 := hR.s256
      have HR := Lib.hid hR
      obtain ⟨D, dk⟩ := dkF hR
      have hD8 : D.length ≤ 8 := by rw [← dk.n]; exact (robots_pos hR).2.1
      have HDK := Lib.hid dk
      obtain ⟨nR, hnR⟩ : ∃ nR, nR = D.length := ⟨_, rfl⟩
      have HRB := Lib.hid (robots_at f (by omega) nR (by rw [hnR]; exact dk.n))
      obtain ⟨Ls, hLs⟩ : ∃ Ls, lanesP f = Ls := ⟨_, rfl⟩
      have HLN := Lib.hid (lanes_at f (by omega) Ls hLs)
      have hlp := lanes_pos hR
      rw [hLs] at hlp
      obtain ⟨nL, hnL⟩ : ∃ nL, nL = Ls.length := ⟨_, rfl⟩
      rw [← hnL] at hlp
      have HNL := Lib.hid hnL
      have HNR0 := Lib.hid hnR
      have hnR8 : nR ≤ 8 := by omega
      have hnL2 : nL ≤ 256 := hlp.2
      have hLto : Ls = lanesTo f.s f.s.size := by rw [← hLs]; unfold lanesP; rw [if_pos (rightB_t hR)]
      have HLM := Lib.hid (show ∀ y ∈ Ls, laneI f.s y by rw [hLto]; exact fun y hy => lanesTo_mem.1 hy)
      have HLD := Lib.hid (show Ls.Nodup by rw [hLto]; unfold lanesTo; exact List.Nodup.sublist List.filter_sublist List.nodup_range)
      have HSUM := Lib.hid (show (wallsTo f.s f.s.size).length + nR + nL = f.s.size by
        have := kinds_sum f.s.size (Nat.le_refl _) hR.kinds
        have h2 : (docksP f.s f.s.size).length = nR := by rw [hnR, ← dk.n]; unfold robotsP; rw [if_pos (rightB_t hR)]
        rw [hnL, hLto, ← h2]; exact this)
      have HNR := Lib.hid (fun (c : Nat) (hc : c ≤ 256) => near_at f (by omega) (c : Int) (by omega) (nearP f c) rfl)
      have HZN := Lib.hid (fun (c : Nat) (hc : c < f.s.size) => zone_b f (by omega) c (by omega) _ (zone_isSome (rightB_t hR) hc))
      have HDO := Lib.hid (fun (k : Nat) (hk : k ≤ 8) => dock_at f (by omega) (k : Int) (by omega) _ rfl)
      obtain ⟨m, hm⟩ : ∃ m, m = S.size := ⟨_, rfl⟩
      have hmI : ((S.size : Nat) : Int) = (m : Int) := by omega
      have hWH : (W : Int) * (H : Int) = (m : Int) := by rw [← hlen, hm]
      have hfm : f.s.size = m := by rw [hf, hm]
      have hm256 : m ≤ 256 := by omega
      have HFM := Lib.hid hfm
      have hwm : IntKind.i64.wrap (m : Int) = (m : Int) := IntWalk.i64_in _ (by omega)
      have HF := Lib.hid hf
      clear hnR hLs hnL hR he dk hD8 hlp hLto hlen hm hfm hSs
      have hmm := @run_makeMap Tryd.prog
      rw [hf] at HRB
      unfold Flr.val at HRB
      simp only at HRB
      clear hf
      go_enter Tryd.func7, Tryd.ntmps7
      go_wp2_with fail
      refine (HSH.out _).mono ?_
      rintro e w1 ⟨rfl, k1⟩
      have K1 := Lib.hid k1
      clear k1
      go_wp2_with fail
      refine (HP.out _).mono ?_
      rintro e w2 ⟨rfl, k2⟩
      have K2 := Lib.hid (K1.out.no k2)
      clear k2
      go_wp2_with fail
      obtain ⟨w5, hw5⟩ : ∃ w5, w5 = ((w2.alloc (.cells #[.int .i64 (W : Int), .int .i64 (H : Int), .string S] 24)).alloc (.map #[] 0)).alloc (.map #[] 0) := ⟨_, rfl⟩
      have C5 := Lib.hid (show CtW W H S w2.heap.size (w2.heap.size + 1) (w2.heap.size + 1 + 1) w [] [] w5 by
        rw [hw5]
        refine ⟨⟨blk_alloc (blk_alloc (blk_new w2 _) _) _, ((K2.out.alloc _).alloc _).alloc _⟩, ?_, ?_, by omega, by omega, by have := K2.out.size; omega⟩
        · show SetI _ _ []
          have := SetI.made (w2.alloc (.cells #[.int .i64 (W : Int), .int .i64 (H : Int), .string S] 24))
          have h2 := this.kp ((Kp.refl No _).alloc (.map #[] 0)) (no_no _)
          simpa using h2
        · show SetI _ _ []
          have := SetI.made ((w2.alloc (.cells #[.int .i64 (W : Int), .int .i64 (H : Int), .string S] 24)).alloc (.map #[] 0))
          simpa using this)
      obtain ⟨b1, hb1⟩ : ∃ b1, b1 = w2.heap.size := ⟨_, rfl⟩
      obtain ⟨bd, hbd⟩ : ∃ bd, bd = w2.heap.size + 1 := ⟨_, rfl⟩
      obtain ⟨bl, hbl⟩ : ∃ bl, bl = w2.heap.size + 1 + 1 := ⟨_, rfl⟩
      rw [← hbl, ← hbd, ← hb1] at C5
      rw [← hw5, ← hbl, ← hbd, ← hb1]
      clear hw5 hb1 hbd hbl K2 hmm
      refine (HRB.out _).mono ?_
      rintro e w6 ⟨rfl, k6⟩
      have C6 := Lib.hid (C5.out.no k6)
      clear k6 C5
      go_wp2_with fail
      go_loopg [41] (nR + 1) (fun g2 rv wx => ∃ r : Nat, g2 = nR + 1 - r ∧ rv = .int .i64 r ∧ r ≤ nR ∧ CtW W H S b1 bd bl w (D.take r) [] wx)
      case atStart => exact ⟨0, rfl, rfl, by omega, C6.out⟩
      case round =>
        clear C6
        obtain ⟨r, hg2, rfl, hr, ct⟩ := hrel
        have CT := Lib.hid ct
        have hb0 : wr.cell? ⟨b1, 0, none⟩ = some (.int .i64 (W : Int)) := ct.bx.c0
        have hb1 : wr.cell? ⟨b1, 1, none⟩ = some (.int .i64 (H : Int)) := ct.bx.c1
        have hb2 : wr.cell? ⟨b1, 2, none⟩ = some (.string S) := ct.bx.c2
        clear ct
        by_cases hlt : r < nR
        · have hltI : (r : Int) < (nR : Int) := by omega
          have hwr : IntKind.i64.wrap ((r : Int) + 1) = (r : Int) + 1 := IntWalk.i64_in _ (by omega)
          obtain ⟨d, hd0⟩ : ∃ d, D[r]? = some d := ⟨_, List.getElem?_eq_getElem (by rw [← HNR0.out]; exact hlt)⟩
          obtain ⟨hd, hds, hdk⟩ := HDK.out.at_ r d hd0
          have HDD := Lib.hid (HDO.out r (by omega) (.tuple #[.int .i64 (d : Int), .bool true]) (by rw [hd]; rfl))
          have HDS := Lib.hid hds; have HDK2 := Lib.hid hdk
          have HTN := Lib.hid (take_not_mem HDK.out.nd hd0)
          have HTS := Lib.hid (take_snocN hd0)
          have hds256 : d < 256 := by have := HFM.out; omega
          rw [HF.out] at HDD
          unfold Flr.val at HDD
          simp only at HDD
          have HNX := Lib.hid (HNR.out d (by omega))
          rw [HF.out] at HNX
          unfold Flr.val at HNX
          simp only at HNX
          rw [← HF.out] at HNX
          obtain ⟨N, hN⟩ : ∃ N, N = nearP f d := ⟨_, rfl⟩
          rw [← hN] at HNX
          have HN := Lib.hid hN
          obtain ⟨nB, hnB⟩ : ∃ nB, nB = N.length := ⟨_, rfl⟩
          have hnB4 : nB ≤ 4 := by
            rw [hnB, hN]; unfold nearP; split
            · exact Nat.le_trans (List.length_filter_le _ _) (besideP_len _ _ _)
            · simp
          have HNB := Lib.hid hnB
          clear hd hds hdk hlt hd0 hN hnB
          go_wp2_with fail
          refine (HDD.out _).mono ?_
          rintro e w7 ⟨rfl, k7⟩
          have C7 := Lib.hid (CT.out.no k7)
          clear k7 hb0 hb1 hb2
          have hb0 : w7.cell? ⟨b1, 0, none⟩ = some (.int .i64 (W : Int)) := C7.out.bx.c0
          have hb1 : w7.cell? ⟨b1, 1, none⟩ = some (.int .i64 (H : Int)) := C7.out.bx.c1
          have hb2 : w7.cell? ⟨b1, 2, none⟩ = some (.string S) := C7.out.bx.c2
          go_wp2_with fail
          refine (HNX.out _).mono ?_
          rintro e w8 ⟨A8, q8, rfl, n8⟩
          rw [← HNB.out] at n8 ⊢
          have N8 := Lib.hid n8; have C8 := Lib.hid (C7.out.no n8.kp)
          clear n8 hb0 hb1 hb2
          go_wp2_with fail
          obtain ⟨wo, rfl⟩ : ∃ wo : World, wo = wr := ⟨_, rfl⟩
          go_loopg [12, 54] (nB + 1) (fun g3 bv jv wx => ∃ (j : Nat) (b : Bool), g3 = nB + 1 - j ∧ jv = .int .i64 j ∧ j ≤ nB ∧ bv = .bool b ∧ b = byN f d j ∧ Kp No w8 wx)
          case atStart => exact ⟨0, false, rfl, rfl, by omega, rfl, rfl, Kp.refl _ _⟩
          case round =>
            obtain ⟨j, b, hg3, rfl, hj, rfl, hb, kj⟩ := hrel
            have HB := Lib.hid hb; have KJ := Lib.hid kj
            have CJ := Lib.hid (C8.out.no kj)
            have hb0 : wr.cell? ⟨b1, 0, none⟩ = some (.int .i64 (W : Int)) := CJ.out.bx.c0
            have hb1 : wr.cell? ⟨b1, 1, none⟩ = some (.int .i64 (H : Int)) := CJ.out.bx.c1
            have hb2 : wr.cell? ⟨b1, 2, none⟩ = some (.string S) := CJ.out.bx.c2
            clear hb kj
            by_cases hlt : j < nB
            · have hltI : (j : Int) < (nB : Int) := by omega
              have hwj : IntKind.i64.wrap ((j : Int) + 1) = (j : Int) + 1 := IntWalk.i64_in _ (by omega)
              obtain ⟨c, hc⟩ : ∃ c, N[j]? = some c := ⟨_, List.getElem?_eq_getElem (by rw [← HNB.out]; exact hlt)⟩
              have hcs : c < f.s.size := near_size HR.out HDS.out (by rw [← HN.out]; exact List.mem_of_getElem? hc)
              rcases N8.out.own.b with ⟨hv, _⟩ | ⟨gC, capC, hv, _, _, _⟩
              · simp only [Value.slice.injEq] at hv; omega
              simp only [Value.slice.injEq] at hv
              obtain ⟨rfl, hzz, rfl⟩ := hv
              clear hzz
              have hcb : wr.cell? ⟨gC, j, none⟩ = some (.int .i64 (c : Int)) := by have := (N8.out.own.kpNo KJ.out).rd.intAt (ints_get hc); simpa using this
              obtain ⟨t, ht⟩ : ∃ t, (kdS f.s c == 2) = t := ⟨_, rfl⟩
              obtain ⟨z, hz⟩ := HZN.out c hcs
              rw [ht] at hz
              have HZ := Lib.hid hz
              rw [HF.out] at HZ
              unfold Flr.val at HZ
              simp only at HZ
              have HB2 := Lib.hid (show (b || t) = byN f d (j + 1) by rw [byN_succ (by rw [← HN.out]; exact hc), ← HB.out, ht])
              have hc256 : c < 256 := by have := HFM.out; omega
              clear hz ht hc hcs hlt
              go_wp2_with fail
              refine (HZ.out _).mono ?_
              rintro e w9 ⟨rfl, k9⟩
              have K9 := Lib.hid (KJ.out.no k9)
              clear k9 hb0 hb1 hb2 hcb
              cases b with
              | false =>
                go_wp2_with fail
                go_roundg (nB + 1 - (j + 1))
                case measure => omega
                case rel => exact ⟨j + 1, t, rfl, by go_num, by omega, rfl, by rw [← HB2.out]; simp, K9.out⟩
              | true =>
                go_wp2_with fail
                go_roundg (nB + 1 - (j + 1))
                case measure => omega
                case rel => exact ⟨j + 1, true, rfl, by go_num, by omega, rfl, by rw [← HB2.out]; simp, K9.out⟩
            · obtain rfl : j = nB := by omega
              have hd0 : ¬ (j : Int) < (j : Int) := by omega
              have hbt : b = true := by rw [HB.out, HNB.out, HN.out]; exact byN_all HR.out HDS.out HDK2.out
              subst hbt
              have hlook := CJ.out.sd.look mapB (d : Int)
              rw [decide_eq_false (fun e => HTN.out (ints_mem.1 e))] at hlook
              obtain ⟨w10, hup, c10⟩ := CJ.out.addD HTN.out
              rw [← HTS.out] at c10
              have C10 := Lib.hid c10
              clear hlt hb0 hb1 hb2 c10
              go_wp2_with fail
              go_roundg (nR + 1 - (r + 1))
              case measure => omega
              case rel => exact ⟨r + 1, rfl, by go_num, by omega, C10.out⟩
        · obtain rfl : r = nR := by omega
          have hd0 : ¬ (r : Int) < (r : Int) := by omega
          have HL2 := HLN
          rw [HF.out] at HL2
          unfold Flr.val at HL2
          simp only at HL2
          have hDt : D.take r = D := by rw [HNR0.out, List.take_length]
          rw [hDt] at CT
          clear hlt hDt
          go_wp2_with fail
          refine (HL2.out _).mono ?_
          rintro e w8 ⟨A8, q8, rfl, n8⟩
          rw [← HNL.out] at n8 ⊢
          have N8 := Lib.hid n8; have C8 := Lib.hid (CT.out.no n8.kp)
          have NG := Lib.hid (show ∀ g, (Value.slice A8 nL q8).ownBlock = some g → bl < g by
            intro g hg
            have h1 := n8.ge g hg
            have h2 := CT.out.sl.lt; omega)
          have O8 := Lib.hid n8.own
          clear n8 hb0 hb1 hb2
          go_wp2_with fail
          obtain ⟨wo, rfl⟩ : ∃ wo : World, wo = wr := ⟨_, rfl⟩
          go_loopg [86] (nL + 1) (fun g3 jv wx => ∃ j : Nat, g3 = nL + 1 - j ∧ jv = .int .i64 j ∧ j ≤ nL ∧ CtW W H S b1 bd bl w D (Ls.take j) wx ∧ Own IK 3 wx (.slice A8 nL q8) (ints Ls))
          case atStart => exact ⟨0, rfl, rfl, by omega, C8.out, O8.out⟩
          case round =>
            clear C8 O8 CT
            obtain ⟨j, hg3, rfl, hj, ct, ob⟩ := hrel
            have CT := Lib.hid ct; have OB := Lib.hid ob
            have hb0 : wr.cell? ⟨b1, 0, none⟩ = some (.int .i64 (W : Int)) := ct.bx.c0
            have hb1 : wr.cell? ⟨b1, 1, none⟩ = some (.int .i64 (H : Int)) := ct.bx.c1
            have hb2 : wr.cell? ⟨b1, 2, none⟩ = some (.string S) := ct.bx.c2
            clear ct ob
            by_cases hlt : j < nL
            · have hltI : (j : Int) < (nL : Int) := by omega
              have hwj : IntKind.i64.wrap ((j : Int) + 1) = (j : Int) + 1 := IntWalk.i64_in _ (by omega)
              obtain ⟨c, hc⟩ : ∃ c, Ls[j]? = some c := ⟨_, List.getElem?_eq_getElem (by rw [← HNL.out]; exact hlt)⟩
              have hcl := HLM.out c (List.mem_of_getElem? hc)
              rcases OB.out.b with ⟨hv, _⟩ | ⟨gC, capC, hv, _, _, _⟩
              · simp only [Value.slice.injEq] at hv; omega
              simp only [Value.slice.injEq] at hv
              obtain ⟨rfl, hzz, rfl⟩ := hv
              clear hzz
              have hcb : wr.cell? ⟨gC, j, none⟩ = some (.int .i64 (c : Int)) := by have := OB.out.rd.intAt (ints_get hc); simpa using this
              obtain ⟨z, hz⟩ := HZN.out c hcl.1
              rw [show (kdS f.s c == 2) = true by simp [hcl.2]] at hz
              have HZ := Lib.hid hz
              rw [HF.out] at HZ
              unfold Flr.val at HZ
              simp only at HZ
              have hc256 : c < 256 := by have := HFM.out; have := hcl.1; omega
              have HTN := Lib.hid (take_not_mem HLD.out hc)
              have HTS := Lib.hid (take_snocN hc)
              have HCD := Lib.hid (show c ∉ D from fun e => by have := (HDK.out.mem c e).2; rw [hcl.2] at this; cases this)
              clear hz hc hcl hlt
              go_wp2_with fail
              refine (HZ.out _).mono ?_
              rintro e w9 ⟨rfl, k9⟩
              have C9 := Lib.hid (CT.out.no k9); have O9 := Lib.hid (OB.out.kpNo k9)
              clear k9 hb0 hb1 hb2 hcb CT OB
              have hlook1 := C9.out.sl.look mapB (c : Int)
              rw [decide_eq_false (fun e => HTN.out (ints_mem.1 e))] at hlook1
              have hlook2 := C9.out.sd.look mapB (c : Int)
              rw [decide_eq_false (fun e => HCD.out (ints_mem.1 e))] at hlook2
              obtain ⟨w10, hup, c10⟩ := C9.out.addL HTN.out
              rw [← HTS.out] at c10
              have C10 := Lib.hid c10
              have O10 := Lib.hid (show Own IK 3 w10 (.slice (some ⟨gC, 0, none⟩) nL q8) (ints Ls) by
                obtain ⟨w', h1, h2, h3⟩ := C9.out.sl.add mapB (c : Int)
                have e : w' = w10 := by rw [hup] at h1; cases h1; rfl
                subst e
                exact O9.out.kp h3 (fun g hg e => by have e : g = bl := e; have := NG.out g hg; omega))
              clear c10
              go_wp2_with fail
              go_roundg (nL + 1 - (j + 1))
              case measure => omega
              case rel => exact ⟨j + 1, rfl, by go_num, by omega, C10.out, O10.out⟩
            · obtain rfl : j = nL := by omega
              have hd0 : ¬ (j : Int) < (j : Int) := by omega
              have hLt : Ls.take j = Ls := by rw [HNL.out, List.take_length]
              rw [hLt] at CT
              clear hlt hLt OB
              go_wp2_with fail
              obtain ⟨wd, rfl⟩ : ∃ wd : World, wd = wr := ⟨_, rfl⟩
              go_loopg [21, 114] (m + 1) (fun g3 wv iv wx => ∃ (i a : Nat), g3 = m + 1 - i ∧ iv = .int .i64 i ∧ i ≤ m ∧ wv = .int .i64 a ∧ a = (wallsTo f.s i).length ∧ CtW W H S b1 bd bl w D Ls wx)
              case atStart => exact ⟨0, 0, rfl, rfl, by omega, rfl, rfl, CT.out⟩
              case round =>
                clear CT hb0 hb1 hb2
                obtain ⟨i, a, hg3, rfl, hi, rfl, ha, ct⟩ := hrel
                have CT := Lib.hid ct; have HA := Lib.hid ha
                have ha256 : a ≤ 256 := by rw [ha]; exact Nat.le_trans (wallsTo_le _ _) (by omega)
                have hb0 : wr.cell? ⟨b1, 0, none⟩ = some (.int .i64 (W : Int)) := ct.bx.c0
                have hb1 : wr.cell? ⟨b1, 1, none⟩ = some (.int .i64 (H : Int)) := ct.bx.c1
                have hb2 : wr.cell? ⟨b1, 2, none⟩ = some (.string S) := ct.bx.c2
                clear ct ha
                by_cases hlt : i < m
                · have hltI : (i : Int) < (m : Int) := by omega
                  have hwi : IntKind.i64.wrap ((i : Int) + 1) = (i : Int) + 1 := IntWalk.i64_in _ (by omega)
                  have hwa : IntKind.i64.wrap ((a : Int) + 1) = (a : Int) + 1 := IntWalk.i64_in _ (by omega)
                  have his : i < f.s.size := by have := HFM.out; omega
                  have hiS : i < S.size := by have := HF.out; rw [this] at his; exact his
                  have hbt := bt_at S i
                  obtain ⟨B, hB⟩ : ∃ B, B = bt S i := ⟨_, rfl⟩
                  rw [← hB] at hbt
                  have hK : kdS f.s i = kindB B := by rw [hB, HF.out]; rfl
                  by_cases h35 : B = 35
                  · have h35b : ((B : Int) == 35) = true := by simp [h35]
                    have hk1 : kdS f.s i = 1 := by rw [hK, h35]; rfl
                    have HW := Lib.hid (wallsTo_in hk1)
                    have hlook1 := CT.out.sd.look mapB (i : Int)
                    rw [decide_eq_false (fun e => by have := (HDK.out.mem i (ints_mem.1 e)).2; omega)] at hlook1
                    have hlook2 := CT.out.sl.look mapB (i : Int)
                    rw [decide_eq_false (fun e => by have := (HLM.out i (ints_mem.1 e)).2; omega)] at hlook2
                    have hnil : nearP f i = [] := by
                      rcases hh : nearP f i with _ | ⟨z, zs⟩
                      · rfl
                      · exact absurd hk1 ((near_iff (y := z) HR.out his).1 (by rw [hh]; simp)).1
                    have HNX := Lib.hid (HNR.out i (by omega))
                    rw [hnil, HF.out] at HNX
                    unfold Flr.val at HNX
                    simp only at HNX
                    clear hK hB h35 hk1 hnil his hlt hiS
                    go_wp2_with fail
                    refine (HNX.out _).mono ?_
                    rintro e w9 ⟨A9, q9, rfl, n9⟩
                    have C9 := Lib.hid (CT.out.no n9.kp)
                    clear n9 hb0 hb1 hb2 hlook1 hlook2
                    go_wp2_with fail
                    go_roundg (m + 1 - (i + 1))
                    case measure => omega
                    case rel => exact ⟨i + 1, a + 1, rfl, by go_num, by omega, by go_num, by rw [HW.out, List.length_append, ← HA.out]; rfl, C9.out⟩
                  · have h35b : ((B : Int) == 35) = false := by simp; omega
                    have HW := Lib.hid (wallsTo_out (s := f.s) (k := i) (fun e => h35 (kd_wall (by rw [← hK]; exact e))))
                    clear hK hB h35 his hlt hiS
                    go_wp2_with fail
                    go_roundg (m + 1 - (i + 1))
                    case measure => omega
                    case rel => exact ⟨i + 1, a, rfl, by go_num, by omega, rfl, by rw [HW.out]; exact HA.out, CT.out⟩
                · obtain rfl : i = m := by omega
                  have hd0 : ¬ (i : Int) < (i : Int) := by omega
                  have hl1 := fun ty => CT.out.sd.len mapB ty
                  have hl2 := fun ty => CT.out.sl.len mapB ty
                  rw [ints_len, ← HNR0.out] at hl1
                  rw [ints_len, ← HNL.out] at hl2
                  have hsum : a + r + j = i := by
                    have := HSUM.out
                    rw [HFM.out, ← HA.out] at this
                    exact this
                  have hs1 : IntKind.i64.wrap ((a : Int) + (r : Int)) = (a : Int) + (r : Int) := IntWalk.i64_in _ (by omega)
                  have hs2 : (a : Int) + (r : Int) + (j : Int) = (i : Int) := by omega
                  clear hlt hsum
                  go_wp2_with fail
                  go_ret
                  exact ⟨rfl, CT.out.bx.kp⟩
    · have heb : ((er : Int) != 0) = true := by simp; omega
      have heb2 : (er != 0) = true := by simp; omega
      clear he
      go_enter Tryd.func7, Tryd.ntmps7
      go_wp2_with fail
      refine (HSH.out _).mono ?_
      rintro e w1 ⟨rfl, k1⟩
      have K1 := Lib.hid k1
      clear k1
      go_wp2_with fail
      refine (HP.out _).mono ?_
      rintro e w2 ⟨rfl, k2⟩
      have K2 := Lib.hid (K1.out.no k2)
      clear k2
      go_wp2_with fail
      go_ret
      exact ⟨rfl, K2.out.alloc _⟩
end Go.Proofs.YtolkkinophklcaaDoor
