/- net.Net: Peek, Take, Lose. -/
import Derived.Test.YtnejjjoedmefkaaNet
namespace Go.Proofs.Ytnejjjoedmefkaa
set_option linter.unusedVariables false
set_option linter.unusedSimpArgs false
open Go.RowKit

set_option maxRecDepth 100000 in
theorem deleteS_any (g cap : Nat) (l : List SlH) (i n : Nat) (w : World) (hn : n = l.length) (hi : i < l.length) (hl : l.length ≤ 1000000) (hlc : l.length ≤ cap) (hcm : cap ≤ maxLen)
    (hB : OwnB SHK 23 w g cap l) (x y : Int) (hx : x = i) (hy : y = i + 1) :
    Calls Try.prog 56 #[.slice (some ⟨g, 0, none⟩) n cap, .int .i64 x, .int .i64 y] w fun e w' =>
      e = .returned (.slice (some ⟨g, 0, none⟩) (l.eraseIdx i).length cap) ∧ Kp (fun k => k = g) w w' ∧ OwnB SHK 23 w' g cap (l.eraseIdx i) := by
  have hne : (x == y) = false := by simp; omega
  obtain ⟨n1, hn1⟩ : ∃ n1, n = n1 + 1 := ⟨n - 1, by omega⟩
  have hlen : (l.eraseIdx i).length = n1 := by rw [List.length_eraseIdx_of_lt hi]; omega
  have hels : l.take i ++ l.drop (i + 1) = l.eraseIdx i := (List.eraseIdx_eq_take_drop_succ l i).symm
  obtain ⟨o1, _, s1⟩ := run_slice_3 elS g 0 n cap i (i + 1) n (by omega) (by omega) (by omega) x y n hx (by omega) rfl
  have s2 := run_slice_hi elS g 0 n cap i (by omega) x hx
  obtain ⟨o2, ho2, s3⟩ := run_slice_lo elS g 0 n cap (i + 1) (by omega) y (by omega)
  obtain ⟨o3, ho3, s4⟩ := run_slice_lohi elS g 0 n1 cap n1 n (by omega) (by omega) n1 n rfl rfl
  obtain ⟨w1, hap, hB1, hK1⟩ := (hB.take i).drew.appended elS (l.drop (i + 1)) (by simp; omega) i (n - (i + 1)) n1 (some ⟨g, o2, none⟩) (cap - (i + 1)) (by simp; omega) (by simp; omega) (by simp; omega)
    (fun hpos => ⟨g, o2, rfl, fun j u hu => by
      rw [List.length_drop] at hpos
      rw [ho2 (by omega), Nat.zero_add]
      rw [← SHK.encs_drop, List.getElem?_drop] at hu
      exact hB.drew.cells _ u hu⟩)
  rw [hels] at hB1
  obtain ⟨w2, hcl, hB2, hK2⟩ := hB1.cleared elS zeroS o3 (n - n1) (cap - n1) (fun h => by rw [ho3 (by omega), hlen]; show 0 + n1 * 1 = n1 * 1; omega) (by omega)
  have HB := Lib.hid hB2; have HK := Lib.hid (hK1.trans hK2); have HL := Lib.hid hlen; have HA := Lib.hid hap; have HC := Lib.hid hcl
  clear hB hB1 hB2 hK1 hK2 hlen hap hcl hels hx hy hn hn1 ho2 ho3
  unfold maxLen at hcm
  go_enter Try.func56, Try.ntmps56
  go_wp2
  go_still_tail 6, (by kernel_rfl)
  change wpList _ _ _ _ _ w.drew
  go_wp2_with (first | (at_builtin; refine wpl_runAppend rfl (.tmp 22) (.tmp 25) 58 58 rfl rfl rfl HA.out ?_) | (refine wpl_runClear rfl (.tmp 31) 58 rfl rfl HC.out ?_))
  go_ret
  refine ⟨by rw [HL.out]; rfl, (Kp.refl (fun k => k = g) w).drew.trans HK.out, HB.out⟩

def atB (l : List SlH) (x : Int) : List Nat := if hasB l.length x then ((l[x.toNat]?).map (·.b)).getD [] else []
def PeekR (l : List SlH) (x : Int) (w : World) (e : Ending) (w' : World) : Prop := ∃ v', e = .returned (.tuple #[v', .bool (hasB l.length x)]) ∧ NewS BK 5 w w' v' (atB l x)
theorem hasB_nat {n : Nat} {x : Int} (h : hasB n x = true) : ∃ i : Nat, x = i ∧ i < n := by
  unfold hasB at h
  simp only [Bool.and_eq_true, decide_eq_true_eq] at h
  exact ⟨x.toNat, by omega, by omega⟩

set_option maxRecDepth 100000 in
theorem peek_any {w : World} {p : Nat} {V : Value} {l : List SlH} (h : NetS p V l w) (hl : ∀ x ∈ l, x.b.length ≤ 1000000) (hn : l.length ≤ 1000000) (x : Int) : Calls Try.prog 33 #[.pointer (some ⟨p, 0, none⟩), .int .i64 x] w (PeekR l x w) := by
  obtain ⟨A, cap, rfl⟩ := h.own.rd.shape
  have c0 : w.cell? ⟨p, 0, none⟩ = some (.slice A l.length cap) := (blk_cell h.blk 0).trans rfl
  by_cases hb : hasB l.length x = true
  · obtain ⟨i, rfl, hi⟩ := hasB_nat hb
    obtain ⟨y, hy⟩ : ∃ y, l[i]? = some y := ⟨_, List.getElem?_eq_getElem hi⟩
    have hyb : y.b.length ≤ 1000000 := hl y (List.mem_of_getElem? hy)
    have hat : atB l (i : Int) = y.b := by unfold atB; rw [if_pos hb]; simp [hy]
    have hyo := (h.el y (List.mem_of_getElem? hy)).1.rd
    rcases h.own.b with ⟨_, e⟩ | ⟨g, cap', e, hm, hlc, hB⟩
    · rw [e] at hi; simp at hi
    simp only [Value.slice.injEq] at e
    obtain ⟨rfl, _, rfl⟩ := e
    have hcy := h.own.rd.slAt hy
    rw [Nat.zero_add] at hcy
    have hiI : (i : Int) < (l.length : Int) := by omega
    have HAT := Lib.hid hat; have HY := Lib.hid hyo; have HBB := Lib.hid hb
    clear hat hyo h hl hy hB hi
    go_enter Try.func33, Try.ntmps33
    go_wp2_with (first
      | (go_at_call 57; refine (has_any _ _ _ _ _).mono ?_; rintro e w1 ⟨rfl, rfl⟩)
      | (go_at_call 55; refine (cloneB_any HY.out hyb).mono ?_; rintro e w2 ⟨v2, rfl, k2⟩; obtain ⟨A2, c2, rfl⟩ := k2.own.rd.shape; have K2 := Lib.hid k2; clear k2))
    go_ret2
    exact ⟨.slice A2 y.b.length c2, by rw [HBB.out]; rfl, by rw [HAT.out]; exact K2.out⟩
  · have hb : hasB l.length x = false := by simpa using hb
    have hat : atB l x = [] := by unfold atB; rw [if_neg (by rw [hb]; decide)]
    have HAT := Lib.hid hat; have HBB := Lib.hid hb
    clear hat h hl
    go_enter Try.func33, Try.ntmps33
    go_wp2_with (first
      | (go_at_call 57; refine (has_any _ _ _ _ _).mono ?_; rintro e w1 ⟨rfl, rfl⟩))
    go_ret2
    exact ⟨.slice none 0 0, by rw [HBB.out]; rfl, by rw [HAT.out]; exact NewS.nil _ _ _⟩

def delB (l : List SlH) (x : Int) : List SlH := if hasB l.length x then l.eraseIdx x.toNat else l
structure TakeNS (p : Nat) (V : Value) (l : List SlH) (x : Int) (w w' : World) : Prop where
  net : ∃ V', NetS p V' (delB l x) w' ∧ ∀ g, V'.ownBlock = some g → V.ownBlock = some g
  kp : Kp (fun k => k = p ∨ V.ownBlock = some k) w w'
def TakeNR (p : Nat) (V : Value) (l : List SlH) (x : Int) (w : World) (e : Ending) (w' : World) : Prop :=
  ∃ v', e = .returned (.tuple #[v', .bool (hasB l.length x)]) ∧ Own BK 5 w' v' (atB l x) ∧ (∀ g, v'.ownBlock = some g → w.heap.size ≤ g) ∧ TakeNS p V l x w w'

set_option maxRecDepth 100000 in
theorem takeN_any {w : World} {p : Nat} {V : Value} {l : List SlH} (h : NetS p V l w) (hl : ∀ x ∈ l, x.b.length ≤ 1000000) (hn : l.length ≤ 1000000) (x : Int) (hx : (Lit.int .i64 x).wf = true) : Calls Try.prog 32 #[.pointer (some ⟨p, 0, none⟩), .int .i64 x] w (TakeNR p V l x w) := by
  obtain ⟨A, cap, rfl⟩ := h.own.rd.shape
  have H := Lib.hid h; have HL := Lib.hid hl
  obtain ⟨L, hL⟩ : ∃ L, L = atB l x := ⟨_, rfl⟩
  have HLE := Lib.hid hL
  by_cases hb : hasB l.length x = true
  · obtain ⟨i, rfl, hi⟩ := hasB_nat hb
    have hw1 : IntKind.i64.wrap ((i : Int) + 1) = (i : Int) + 1 := IntWalk.i64_in _ (by omega)
    have HBB := Lib.hid hb; have HI := Lib.hid hi
    rcases h.own.b with ⟨_, e⟩ | ⟨g, cap', e, hm, hlc, hB⟩
    · rw [e] at hi; simp at hi
    simp only [Value.slice.injEq] at e
    obtain ⟨rfl, _, rfl⟩ := e
    have HB := Lib.hid hB; have HM := Lib.hid hm; have HLC := Lib.hid hlc; have HN := Lib.hid hn
    clear h hl hL hb hi hB hm hlc hn
    go_enter Try.func32, Try.ntmps32
    go_wp2_with (first
      | (go_at_call 33; refine (peek_any H.out HL.out HN.out _).mono ?_; rintro e w1 ⟨v1, rfl, k1⟩; rw [HBB.out]; rw [← HLE.out] at k1; obtain ⟨A1, c1, rfl⟩ := k1.own.rd.shape; have N1 := Lib.hid (H.out.no k1.kp); have d1 : w1.cell? ⟨p, 0, none⟩ = some (.slice (some ⟨g, 0, none⟩) l.length cap) := (blk_cell N1.out.blk 0).trans rfl; have K1 := Lib.hid k1; clear k1)
      | (go_at_call 56; refine (deleteS_any g cap l i _ _ rfl HI.out HN.out HLC.out HM.out (HB.out.kp K1.out.kp (no_no _)) _ _ rfl rfl).mono ?_; rintro e w2 ⟨rfl, k2, b2⟩; have d2 : w2.cell? ⟨p, 0, none⟩ = some (.slice (some ⟨g, 0, none⟩) l.length cap) := (k2.cellS d1 (fun e => N1.out.ne2 True (by have e : p = g := e; rw [e]; rfl))); have e2 : w2.frozen? ⟨p, 0, none⟩ = false := blk_free (k2.blk N1.out.blk (fun e => N1.out.ne2 True (by have e : p = g := e; rw [e]; rfl))) 0; have K2 := Lib.hid k2; have B2 := Lib.hid b2; clear k2 b2))
    go_ret2
    have kk : Kp (fun k => (Value.slice (some ⟨g, 0, none⟩) l.length cap).ownBlock = some k) w1 w2 := K2.out.mono fun k _ e => by have e : k = g := e; rw [e]; rfl
    obtain ⟨r1, r2⟩ := net_back (l' := l.eraseIdx i) N1.out kk (B2.out.own HM.out) (fun y hy => (N1.out.el y (List.mem_of_mem_eraseIdx hy)).kpB kk (Byt.own N1.out.own (by decide)))
    refine ⟨.slice A1 L.length c1, by rw [HBB.out]; rfl, ?_, K1.out.ge, ?_, (K1.out.kp.mono fun _ _ e => e.elim).trans r2⟩
    · rw [← HLE.out]
      exact K1.out.own.kpB r2 N1.out.byt
    · refine ⟨.slice (some ⟨g, 0, none⟩) (l.eraseIdx i).length cap, ?_, fun g hg => hg⟩
      unfold delB
      rw [if_pos HBB.out]
      exact r1
  · have hb : hasB l.length x = false := by simpa using hb
    have HBB := Lib.hid hb
    have HN := Lib.hid hn
    clear h hl hL hb hn
    go_enter Try.func32, Try.ntmps32
    go_wp2_with (first
      | (go_at_call 33; refine (peek_any H.out HL.out HN.out _).mono ?_; rintro e w1 ⟨v1, rfl, k1⟩; rw [HBB.out]; rw [← HLE.out] at k1; obtain ⟨A1, c1, rfl⟩ := k1.own.rd.shape; have K1 := Lib.hid k1; clear k1))
    go_ret2
    refine ⟨.slice A1 L.length c1, by rw [HBB.out]; rfl, by rw [← HLE.out]; exact K1.out.own, K1.out.ge, ⟨_, ?_, fun g hg => hg⟩, K1.out.kp.mono fun _ _ e => e.elim⟩
    unfold delB
    rw [if_neg (by rw [HBB.out]; decide)]
    exact H.out.no K1.out.kp

set_option maxRecDepth 100000 in
theorem lose_any {w : World} {p : Nat} {V : Value} {l : List SlH} (h : NetS p V l w) (hl : ∀ x ∈ l, x.b.length ≤ 1000000) (hn : l.length ≤ 1000000) (x : Int) (hx : (Lit.int .i64 x).wf = true) : Calls Try.prog 34 #[.pointer (some ⟨p, 0, none⟩), .int .i64 x] w fun e w' => e = .returned (.bool (hasB l.length x)) ∧ TakeNS p V l x w w' := by
  have H := Lib.hid h; have HL := Lib.hid hl; have HN := Lib.hid hn; have HX := Lib.hid hx
  clear h hl hn hx
  go_enter Try.func34, Try.ntmps34
  go_wp2_with (go_at_call 32; refine (takeN_any H.out HL.out HN.out x HX.out).mono ?_; rintro e w1 ⟨v1, rfl, _, _, k1⟩; have K1 := Lib.hid k1; clear k1)
  go_ret
  exact ⟨rfl, K1.out⟩
end Go.Proofs.Ytnejjjoedmefkaa
