/- bits.Reader: NewReader, Left, one; bits.Reader: one; bits.Reader: Get; bits.Reader: Count; bits.Reader: End; Slices in new memory; carfaxref01: Bits; carfaxref01: Count; carfaxref01: Bytes; carfaxref01: Bytes, the walk; carfaxref01: Of; carfaxref01: Of, the walk; carfaxref01: Reader.Get; carfaxref01: Reader.Count; carfaxref01: Reader.End; check.Sum, carfaxref02.Sum: the walks. No condition. -/
import Derived.Test.YtfpikgkbccgchaaGreatDoorM1
import Derived.Deep.RegionHeld3
import Derived.Deep.RegionLaw

namespace Go.Proofs.YtfpikgkbccgchaaGreatDoor
set_option linter.unusedVariables false
set_option linter.unusedSimpArgs false
open Go.RowKit

theorem Kp.newer {a b c : World} {p : Nat} (h : Kp No a b) (k : Kp (fun k => k = p) b c) (hp : a.heap.size ≤ p) : Kp No a c := h.trans' k fun j hj e => by have e : j = p := e; exact absurd hj (by omega)
/-- A reader: p points to it, it reads the bytes B by the slice V, stands at bit n, and has the fault f; since w0 no other block was written. -/
structure AtR (w0 : World) (p : Nat) (V : Value) (B : List Nat) (n : Nat) (f : Int) (w : World) : Prop where
  blk : w.heap[p]? = some (.cells #[V, .int .i64 (n : Int), .int .i64 f] 200 (0, 0))
  rd : Rd BK w V B
  ne : ∀ g, V.ownBlock = some g → g ≠ p
  kp : Kp (fun k => k = p) w0 w
theorem AtR.kpNo {w0 w w' : World} {p : Nat} {V : Value} {B : List Nat} {n : Nat} {f : Int} (h : AtR w0 p V B n f w) (hk : Kp No w w') : AtR w0 p V B n f w' :=
  ⟨hk.blk h.blk (no_no _), h.rd.kpNo hk, h.ne, h.kp.no hk⟩
theorem AtR.here {w0 w : World} {p : Nat} {V : Value} {B : List Nat} {n : Nat} {f : Int} (h : AtR w0 p V B n f w) : AtR w p V B n f w := ⟨h.blk, h.rd, h.ne, Kp.refl _ _⟩
/-- What is written elsewhere leaves the reader as it is. -/
theorem AtR.far {S : Nat → Prop} {w0 w w' : World} {p : Nat} {V : Value} {B : List Nat} {n : Nat} {f : Int} (h : AtR w0 p V B n f w) (hk : Kp S w w') (hp : ¬ S p) (hv : ∀ g, V.ownBlock = some g → ¬ S g) : AtR w' p V B n f w' :=
  ⟨hk.blk h.blk hp, h.rd.kp hk hv, h.ne, Kp.refl _ _⟩
theorem AtR.old {w0 w : World} {p : Nat} {V : Value} {B : List Nat} {n : Nat} {f : Int} (h : AtR w0 p V B n f w) (hp : w0.heap.size ≤ p) : Kp No w0 w := h.kp.mono fun k hk e => by omega
/-- The reader's place and fault are set anew. -/
theorem AtR.set1 {w0 w : World} {p : Nat} {V : Value} {B : List Nat} {n m : Nat} {f : Int} (h : AtR w0 p V B n f w) : AtR w0 p V B m f (w.setCell ⟨p, 1, none⟩ (.int .i64 (m : Int))) := by
  have hk := (Kp.refl (fun k => k = p) w).setCell (p := ⟨p, 1, none⟩) (fun _ => rfl) (.int .i64 (m : Int))
  exact ⟨(blk_set h.blk 1 _).trans rfl, h.rd.kp hk h.ne, h.ne, h.kp.trans hk⟩
theorem AtR.set2 {w0 w : World} {p : Nat} {V : Value} {B : List Nat} {n : Nat} {f g : Int} (h : AtR w0 p V B n f w) : AtR w0 p V B n g (w.setCell ⟨p, 2, none⟩ (.int .i64 g)) := by
  have hk := (Kp.refl (fun k => k = p) w).setCell (p := ⟨p, 2, none⟩) (fun _ => rfl) (.int .i64 g)
  exact ⟨(blk_set h.blk 2 _).trans rfl, h.rd.kp hk h.ne, h.ne, h.kp.trans hk⟩
theorem AtR.cells {w0 w : World} {p : Nat} {V : Value} {B : List Nat} {n : Nat} {f : Int} (h : AtR w0 p V B n f w) :
    w.cell? ⟨p, 1, none⟩ = some (.int .i64 (n : Int)) ∧ w.cell? ⟨p, 2, none⟩ = some (.int .i64 f) ∧ (∀ i, w.frozen? ⟨p, i, none⟩ = false) ∧ ∃ A cap, w.cell? ⟨p, 0, none⟩ = some (.slice A B.length cap) ∧ Rd BK w (.slice A B.length cap) B := by
  obtain ⟨A, cap, rfl⟩ := h.rd.shape
  exact ⟨(blk_cell h.blk 1).trans rfl, (blk_cell h.blk 2).trans rfl, blk_free h.blk, A, cap, (blk_cell h.blk 0).trans rfl, h.rd⟩

set_option maxRecDepth 100000 in
theorem newR_any {w : World} {v : Value} {B : List Nat} (h : Rd BK w v B) (hB : B.length ≤ 1000000) : Calls Tryz.prog 101 #[v] w fun e w' => ∃ p V, e = .returned (.pointer (some ⟨p, 0, none⟩)) ∧ AtR w' p V B 0 0 w' ∧ Kp No w w' ∧ w.heap.size ≤ p ∧ p < w'.heap.size ∧ ∀ g, V.ownBlock = some g → w.heap.size ≤ g ∧ g < w'.heap.size := by
  obtain ⟨A, cap, rfl⟩ := h.shape
  have H := Lib.hid h
  clear h
  go_enter Tryz.func101, Tryz.ntmps101
  go_wp2_with (at_builtin; refine wpl_append elB rfl (.const (.slice none 0 0)) (.tmp 3) rfl rfl rfl (l := []) (m := B) ?c1 ?c2 ?c3 ?c4 ?c5)
  case c1 => exact Own.nil _ _ _
  case c2 => exact H.out
  case c3 => show 0 + B.length ≤ maxLen; unfold maxLen; omega
  case c4 => show (0 + B.length) * 1 ≤ _; omega
  case c5 =>
    intro v' w' k1 k2 k3
    obtain ⟨A2, cap2, rfl⟩ := k1.rd.shape
    have K1 := Lib.hid k1.rd; have K2 := Lib.hid k2; have K3 := Lib.hid k3
    have hlt := Lib.hid (fun g hg => k1.lt (g := g) hg)
    clear k1 k2 k3
    go_wp2
    go_ret
    have hk : Kp No w w' := K2.out.mono fun k _ h => by simp [Value.ownBlock] at h
    have hs : (w'.alloc (.cells #[.slice A2 B.length cap2, .int .i64 0, .int .i64 0] 200)).heap.size = w'.heap.size + 1 := by simp
    refine ⟨w'.heap.size, .slice A2 B.length cap2, rfl, ⟨blk_new w' _, by simpa using K1.out.alloc _, fun g hg => ?_, Kp.refl _ _⟩, hk.alloc _, hk.size, by rw [hs]; omega, fun g hg => ⟨?_, ?_⟩⟩
    · have := hlt.out g hg
      omega
    · rcases K3.out g hg with e | e
      · simp [Value.ownBlock] at e
      · exact e
    · have := hlt.out g hg
      rw [hs]; omega

set_option maxRecDepth 100000 in
theorem left_any {w0 w : World} {p : Nat} {V : Value} {B : List Nat} {n : Nat} {f : Int} (h : AtR w0 p V B n f w) (hB : B.length ≤ 1000000) (hn : n ≤ 8 * B.length) :
    Calls Tryz.prog 104 #[.pointer (some ⟨p, 0, none⟩)] w fun e w' => e = .returned (.int .i64 (8 * (B.length : Int) - n)) ∧ Kp No w w' := by
  obtain ⟨h1, h2, h3, A, cap, h4, h5⟩ := h.cells
  have hw1 : IntKind.i64.wrap (8 * (B.length : Int)) = 8 * (B.length : Int) := IntWalk.i64_in _ (by omega)
  have hw2 : IntKind.i64.wrap (8 * (B.length : Int) - (n : Int)) = 8 * (B.length : Int) - (n : Int) := IntWalk.i64_in _ (by omega)
  clear h h5 hB hn
  go_enter Tryz.func104, Tryz.ntmps104
  go_wp2
  go_quiet (fail)
  go_wp2
  go_ret
  exact ⟨rfl, (Kp.refl _ _).drewN _⟩
end Go.Proofs.YtfpikgkbccgchaaGreatDoor

namespace Go.Proofs.YtfpikgkbccgchaaGreatDoor
set_option linter.unusedVariables false
set_option linter.unusedSimpArgs false
open Go.RowKit

theorem unpackB_len (B : List Nat) : (unpackB B).length = 8 * B.length := by
  induction B with
  | nil => rfl
  | cons x B ih =>
    have : unpackB (x :: B) = nbits x 8 ++ unpackB B := rfl
    rw [this, List.length_append, nbits_len, ih, List.length_cons]; omega
theorem unpackB_get (B : List Nat) (d m x : Nat) (hx : B[d]? = some x) (hm : m < 8) : (unpackB B)[8 * d + m]? = some (decide (x / 2 ^ (7 - m) % 2 = 1)) := by
  induction B generalizing d with
  | nil => simp at hx
  | cons y B ih =>
    have h0 : unpackB (y :: B) = nbits y 8 ++ unpackB B := rfl
    rw [h0]
    cases d with
    | zero =>
      simp at hx; subst hx
      rw [List.getElem?_append_left (by rw [nbits_len]; omega), Nat.mul_zero, Nat.zero_add]
      exact nbits_get y 8 m hm
    | succ d =>
      rw [List.getElem?_append_right (by rw [nbits_len]; omega), nbits_len, show 8 * (d + 1) + m - 8 = 8 * d + m by omega]
      exact ih d (by simpa using hx)
theorem bits_and_u8_one (a : Nat) (ha : a < 256) : bits .and .u8 (a : Int) 1 = ((a % 2 : Nat) : Int) := by
  have h1 : (BitVec.ofInt 8 (a : Int)).toNat = a := by
    rw [BitVec.ofInt_natCast, BitVec.toNat_ofNat]; exact Nat.mod_eq_of_lt (by omega)
  have h2 : (BitVec.ofInt 8 (1 : Int)).toNat = 1 := by decide
  show IntKind.u8.wrap ((BitVec.ofInt 8 (a : Int) &&& BitVec.ofInt 8 (1 : Int)).toNat : Int) = _
  rw [BitVec.toNat_and, h1, h2, Nat.and_one_is_mod]
  show (((a % 2 : Nat) : Int) % 256) = _
  omega

set_option maxRecDepth 100000 in
theorem one_any {w0 w : World} {p : Nat} {V : Value} {B : List Nat} {n : Nat} {f : Int} (h : AtR w0 p V B n f w) (hB : B.length ≤ 1000000) (hBx : ∀ x ∈ B, x < 256) (a : Nat) (b : Bool) (hb : (unpackB B)[n + a]? = some b) (y : Int) (hy : y = a) :
    Calls Tryz.prog 133 #[.pointer (some ⟨p, 0, none⟩), .int .i64 y] w fun e w' => e = .returned (.bool b) ∧ w' = w := by
  subst hy
  obtain ⟨h1, h2, h3, A, cap, h4, h5⟩ := h.cells
  have hlt := (List.getElem?_eq_some_iff.1 hb).1
  rw [unpackB_len] at hlt
  obtain ⟨t, ht⟩ : ∃ t, t = n + a := ⟨_, rfl⟩
  obtain ⟨d, hd⟩ : ∃ d, d = t / 8 := ⟨_, rfl⟩
  obtain ⟨m, hm⟩ : ∃ m, m = t % 8 := ⟨_, rfl⟩
  obtain ⟨x, hx⟩ : ∃ x, B[d]? = some x := ⟨_, List.getElem?_eq_getElem (by omega)⟩
  have hx256 := hBx x (List.mem_of_getElem? hx)
  have hg := unpackB_get B d m x hx (by omega)
  rw [show 8 * d + m = n + a by omega, hb] at hg
  rcases h5 with ⟨hv, he⟩ | ⟨g, o, cap', hv, hr⟩
  · rw [he] at hx; simp at hx
  have hrd : Rd BK w (.slice A B.length cap) B := .inr ⟨g, o, cap', hv, hr⟩
  simp only [Value.slice.injEq] at hv
  obtain ⟨rfl, _, rfl⟩ := hv
  have hxc := hrd.byteAt hx
  obtain ⟨s, hs⟩ : ∃ s, s = 7 - m := ⟨_, rfl⟩
  obtain ⟨q, hq⟩ : ∃ q, q = x / 2 ^ s := ⟨_, rfl⟩
  obtain ⟨z, hz⟩ : ∃ z : Int, z = ((q % 2 : Nat) : Int) := ⟨_, rfl⟩
  have e1 : (n : Int) + (a : Int) = (t : Int) := by omega
  have e2 : IntKind.i64.wrap (t : Int) = (t : Int) := IntWalk.i64_in _ (by omega)
  have e3 : (t : Int) / 8 = (d : Int) := by omega
  have e4 : (t : Int) % 8 = (m : Int) := by omega
  have e5 : IntKind.i64.wrap (d : Int) = (d : Int) := IntWalk.i64_in _ (by omega)
  have e6 : IntKind.i64.wrap (m : Int) = (m : Int) := IntWalk.i64_in _ (by omega)
  have e7 : (7 : Int) - (m : Int) = (s : Int) := by omega
  have e8 : IntKind.i64.wrap (s : Int) = (s : Int) := IntWalk.i64_in _ (by omega)
  have e9 : (x : Int) / 2 ^ s = (q : Int) := by rw [hq]; simp
  have hq256 : q < 256 := by rw [hq]; exact Nat.lt_of_le_of_lt (Nat.div_le_self _ _) hx256
  have e10 : bits .and .u8 (q : Int) 1 = z := by rw [hz]; exact bits_and_u8_one q hq256
  have e11 : (z == 1) = b := by
    have hg := Option.some.inj hg
    rw [← hs, ← hq] at hg
    rw [hg, hz]
    by_cases c : q % 2 = 1
    · simp [c]
    · simp [c]; omega
  have hdI : (d : Int) < (B.length : Int) := by omega
  have hs8 : s < 8 := by omega
  have hs8I : (s : Int) ≤ 8 := by omega
  clear h hb hlt hx hg hr hrd hB hBx hq hz hs hd hm ht hx256 hq256
  go_enter Tryz.func133, Tryz.ntmps133
  go_wp2
  go_ret
  exact ⟨rfl, rfl⟩
end Go.Proofs.YtfpikgkbccgchaaGreatDoor

namespace Go.Proofs.YtfpikgkbccgchaaGreatDoor
set_option linter.unusedVariables false
set_option linter.unusedSimpArgs false
open Go.RowKit

/-- What Get answers, and the place and the fault behind it (of at most 64 bits). -/
def rgetV (L : List Bool) (n : Nat) (f : Int) (many : Nat) : Nat := if f = 0 ∧ n + many ≤ L.length then bval ((L.drop n).take many) else 0
def rgetN (L : List Bool) (n : Nat) (f : Int) (many : Nat) : Nat := if f = 0 ∧ n + many ≤ L.length then n + many else n
def rgetF (L : List Bool) (n : Nat) (f : Int) (many : Nat) : Int := if f = 0 then (if n + many ≤ L.length then 0 else 10) else f

theorem bits_or_u64_one (x : Nat) (hx : x < 9223372036854775808) : bits .or .u64 ((2 * x : Nat) : Int) 1 = ((2 * x + 1 : Nat) : Int) := by
  have := bits_or_u64_nat (2 * x) 1 (by omega) (by omega)
  rw [show ((1 : Nat) : Int) = 1 from rfl] at this
  rw [this]
  congr 1
  exact (Nat.two_pow_add_eq_or_of_lt (i := 1) (b := 1) (by decide) x).symm

set_option maxRecDepth 100000 in
theorem get_any {w0 w : World} {p : Nat} {V : Value} {B : List Nat} {n : Nat} {f : Int} (h : AtR w0 p V B n f w) (hB : B.length ≤ 1000000) (hBx : ∀ x ∈ B, x < 256) (hn : n ≤ 8 * B.length) (many : Nat) (hm : many ≤ 64) (y : Int) (hy : y = many) :
    Calls Tryz.prog 102 #[.pointer (some ⟨p, 0, none⟩), .int .i64 y] w fun e w' => e = .returned (.int .u64 (rgetV (unpackB B) n f many : Int)) ∧ AtR w0 p V B (rgetN (unpackB B) n f many) (rgetF (unpackB B) n f many) w' := by
  subst hy
  obtain ⟨h1, h2, h3, A, cap, h4, h5⟩ := h.cells
  have h30 := h3 1
  have h31 := h3 2
  have H := Lib.hid h
  have hUL := unpackB_len B
  clear h h5
  by_cases hf : f = 0
  · subst hf
    have n1 : ¬ (many : Int) < 0 := by omega
    have n2 : ¬ (64 : Int) < (many : Int) := by omega
    by_cases hs : n + many ≤ (unpackB B).length
    · have n3 : ¬ 8 * (B.length : Int) - (n : Int) < (many : Int) := by omega
      have hV : rgetV (unpackB B) n 0 many = bval (((unpackB B).drop n).take many) := by simp [rgetV, hs]
      have hN : rgetN (unpackB B) n 0 many = n + many := by simp [rgetN, hs]
      have hF : rgetF (unpackB B) n 0 many = 0 := by simp [rgetF, hs]
      rw [hV, hN, hF]
      have HN := Lib.hid hn; have HS := Lib.hid hs; have HUL := Lib.hid hUL; have HX := Lib.hid hBx
      clear hV hN hF hs hUL hBx hn
      go_enter Tryz.func102, Tryz.ntmps102
      go_wp2_with fail
      refine (left_any H.out hB HN.out).mono ?_
      rintro e w1 ⟨rfl, k1⟩
      have H1 := Lib.hid (H.out.kpNo k1)
      clear k1
      go_wp2
      go_loopw [5, 35] (fun v i wr => ∃ k : Nat, i = .int .i64 k ∧ k ≤ many ∧ v = .int .u64 (bval (((unpackB B).drop n).take k) : Int) ∧ AtR w0 p V B (n + k) 0 wr) (fun _ i _ => many - (intOf i).toNat)
      case atStart => exact ⟨0, rfl, by omega, rfl, H1.out⟩
      case round =>
        obtain ⟨k, rfl, hk, rfl, hat⟩ := hrel
        by_cases hlt : k < many
        · obtain ⟨b, hb⟩ : ∃ b, (unpackB B)[n + k]? = some b := ⟨_, List.getElem?_eq_getElem (by have := HS.out; omega)⟩
          have hsn : ((unpackB B).drop n).take (k + 1) = ((unpackB B).drop n).take k ++ [b] := by
            rw [List.take_add_one, List.getElem?_drop, hb]; rfl
          have hbl := bval_lt (((unpackB B).drop n).take k)
          have hlen : (((unpackB B).drop n).take k).length ≤ 63 := by rw [List.length_take]; omega
          have h63 : 2 ^ (((unpackB B).drop n).take k).length ≤ 2 ^ 63 := Nat.pow_le_pow_right (by decide) hlen
          have hsv := bval_snoc (((unpackB B).drop n).take k) b
          rw [← hsn] at hsv
          obtain ⟨x, hx⟩ : ∃ x, x = bval (((unpackB B).drop n).take k) := ⟨_, rfl⟩
          rw [← hx] at hsv hbl
          obtain ⟨x2, hx2⟩ : ∃ x2, x2 = 2 * x := ⟨_, rfl⟩
          have hx63 : x < 9223372036854775808 := by omega
          have e1 : (x : Int) * 2 = (x2 : Int) := by omega
          have e2 : IntKind.u64.wrap (x2 : Int) = (x2 : Int) := IntWalk.u64_in _ (by omega)
          have e3 : bits .or .u64 (x2 : Int) 1 = ((x2 + 1 : Nat) : Int) := by rw [hx2]; exact bits_or_u64_one x hx63
          obtain ⟨x3, hx3⟩ : ∃ x3 : Nat, x3 = x2 + 1 := ⟨_, rfl⟩
          rw [← hx3] at e3
          rw [← hx]
          have HSV := Lib.hid hsv; have HX2 := Lib.hid hx2; have HX3 := Lib.hid hx3
          obtain ⟨t, ht⟩ : ∃ t, t = n + k := ⟨_, rfl⟩
          rw [← ht] at hb hat
          have HB : Hid ((unpackB B)[t + 0]? = some b) := hb
          have HAT := Lib.hid hat
          have hltI : (k : Int) < (many : Int) := by omega
          obtain ⟨g1, g2, g3, A', cap', g4, g5⟩ := hat.cells
          have g31 := g3 1
          obtain ⟨t1, ht1⟩ : ∃ t1, t1 = t + 1 := ⟨_, rfl⟩
          have hnk : t < 9000000 := by have := HN.out; omega
          have e4 : IntKind.i64.wrap (t1 : Int) = (t1 : Int) := IntWalk.i64_in _ (by omega)
          have e5 : (t : Int) + 1 = (t1 : Int) := by omega
          have HT := Lib.hid (show t1 = n + (k + 1) by omega)
          clear ht ht1 hsn hsv hb hat hbl hlen h63 hx hx2 hx3 hx63 g5 hlt
          go_wp2_with fail
          refine (one_any HAT.out hB HX.out 0 b HB.out 0 rfl).mono ?_
          rintro e w5 ⟨rfl, rfl⟩
          cases b with
          | false =>
            go_wp2
            go_roundw
            case rel =>
              refine ⟨k + 1, by go_num, by omega, ?_, by rw [← HT.out]; exact HAT.out.set1⟩
              rw [HSV.out, HX2.out]; simp
            case measure => simp [intOf]; omega
          | true =>
            go_wp2
            go_roundw
            case rel =>
              refine ⟨k + 1, by go_num, by omega, ?_, by rw [← HT.out]; exact HAT.out.set1⟩
              rw [HSV.out, HX3.out, HX2.out]; simp
            case measure => simp [intOf]; omega
        · obtain rfl : k = many := by omega
          have HAT := Lib.hid hat
          clear hat
          go_wp2
          go_ret
          exact ⟨rfl, HAT.out⟩
    · have n3 : 8 * (B.length : Int) - (n : Int) < (many : Int) := by omega
      have hV : rgetV (unpackB B) n 0 many = 0 := by simp [rgetV, hs]
      have hN : rgetN (unpackB B) n 0 many = n := by simp [rgetN, hs]
      have hF : rgetF (unpackB B) n 0 many = 10 := by simp [rgetF, hs]
      rw [hV, hN, hF]
      clear hV hN hF hs hUL
      go_enter Tryz.func102, Tryz.ntmps102
      go_wp2_with fail
      refine (left_any H.out hB hn).mono ?_
      rintro e w1 ⟨rfl, k1⟩
      have H1 := Lib.hid (H.out.kpNo k1)
      obtain ⟨g1, g2, g3, A', cap', g4, g5⟩ := H1.out.cells
      have g30 := g3 2
      clear k1 g5
      go_wp2
      go_ret
      exact ⟨rfl, H1.out.set2⟩
  · have hV : rgetV (unpackB B) n f many = 0 := by simp [rgetV, hf]
    have hN : rgetN (unpackB B) n f many = n := by simp [rgetN, hf]
    have hF : rgetF (unpackB B) n f many = f := by simp [rgetF, hf]
    rw [hV, hN, hF]
    have hfb : (f != 0) = true := by simpa using hf
    clear hV hN hF hUL hf
    go_enter Tryz.func102, Tryz.ntmps102
    go_wp2
    go_ret
    exact ⟨rfl, H.out⟩
end Go.Proofs.YtfpikgkbccgchaaGreatDoor

namespace Go.Proofs.YtfpikgkbccgchaaGreatDoor
set_option linter.unusedVariables false
set_option linter.unusedSimpArgs false
open Go.RowKit

def zerosL (l : List Bool) : Nat := (l.takeWhile fun b => !b).length
theorem zerosL_le (l : List Bool) : zerosL l ≤ l.length := List.Sublist.length_le (List.takeWhile_sublist _)
theorem zerosL_eq (l : List Bool) : ∀ k, k ≤ l.length → (∀ j, j < k → l[j]? = some false) → (l[k]? = none ∨ l[k]? = some true) → zerosL l = k := by
  induction l with
  | nil => intro k hk _ _; simp at hk; simp [zerosL, hk]
  | cons b l ih =>
    intro k hk h1 h2
    cases k with
    | zero =>
      rcases h2 with h | h
      · simp at h
      · simp at h; subst h; simp [zerosL]
    | succ k =>
      have h0 := h1 0 (by omega)
      simp at h0; subst h0
      have := ih k (by simpa using hk) (fun j hj => by have := h1 (j + 1) (by omega); simpa using this) (by simpa using h2)
      unfold zerosL at this ⊢
      simp [this]
def rcOk (L : List Bool) (n : Nat) (f : Int) : Prop := f = 0 ∧ zerosL (L.drop n) ≤ 63 ∧ n + (2 * zerosL (L.drop n) + 1) ≤ L.length
instance (L : List Bool) (n : Nat) (f : Int) : Decidable (rcOk L n f) := by unfold rcOk; exact inferInstance
/-- What Count answers: one less than the number behind the zeros. -/
def rcV (L : List Bool) (n : Nat) (f : Int) : Nat := if rcOk L n f then bval ((L.drop (n + zerosL (L.drop n))).take (zerosL (L.drop n) + 1)) else 0
def rcN (L : List Bool) (n : Nat) (f : Int) : Nat := if rcOk L n f then n + (2 * zerosL (L.drop n) + 1) else n
def rcF (L : List Bool) (n : Nat) (f : Int) : Int := if f = 0 then (if 63 < zerosL (L.drop n) then 4 else if n + (2 * zerosL (L.drop n) + 1) ≤ L.length then 0 else 10) else f

set_option maxRecDepth 100000 in
theorem rcount_any {w0 w : World} {p : Nat} {V : Value} {B : List Nat} {n : Nat} {f : Int} (h : AtR w0 p V B n f w) (hB : B.length ≤ 1000000) (hBx : ∀ x ∈ B, x < 256) (hn : n ≤ 8 * B.length) :
    Calls Tryz.prog 103 #[.pointer (some ⟨p, 0, none⟩)] w fun e w' => e = .returned (.int .u64 (if rcOk (unpackB B) n f then (rcV (unpackB B) n f : Int) - 1 else 0)) ∧ AtR w0 p V B (rcN (unpackB B) n f) (rcF (unpackB B) n f) w' := by
  obtain ⟨h1, h2, h3, A, cap, h4, h5⟩ := h.cells
  have H := Lib.hid h
  have hUL := unpackB_len B
  clear h h5 h1 h3 h4
  by_cases hf : f = 0
  · subst hf
    have HN := Lib.hid hn; have HUL := Lib.hid hUL; have HX := Lib.hid hBx
    obtain ⟨L, hL⟩ : ∃ L, L = unpackB B := ⟨_, rfl⟩
    obtain ⟨lf, hlf⟩ : ∃ lf, n + lf = 8 * B.length := ⟨8 * B.length - n, by omega⟩
    have hlI : 8 * (B.length : Int) - (n : Int) = (lf : Int) := by omega
    have HLF := Lib.hid hlf
    clear hUL hBx hn hlf
    go_enter Tryz.func103, Tryz.ntmps103
    go_wp2_with fail
    refine (left_any H.out hB HN.out).mono ?_
    rintro e w1 ⟨rfl, k1⟩
    rw [hlI]
    have H1 := Lib.hid (H.out.kpNo k1)
    clear k1 hlI
    go_wp2
    go_loopw [4] (fun i wr => ∃ k : Nat, i = .int .i64 k ∧ k ≤ lf ∧ (∀ j, j < k → ((unpackB B).drop n)[j]? = some false) ∧ wr = w1) (fun i _ => lf - (intOf i).toNat)
    case atStart => exact ⟨0, rfl, by omega, by omega, rfl⟩
    case round =>
      obtain ⟨k, rfl, hk, hz, rfl⟩ := hrel
      by_cases hlt : k < lf
      · obtain ⟨b, hb⟩ : ∃ b, (unpackB B)[n + k]? = some b := ⟨_, List.getElem?_eq_getElem (by have := HUL.out; have := HLF.out; omega)⟩
        have hltI : (k : Int) < (lf : Int) := by omega
        have hwk : IntKind.i64.wrap ((k : Int) + 1) = (k : Int) + 1 := IntWalk.i64_in _ (by have := HLF.out; omega)
        cases b with
        | false =>
          have HZ := Lib.hid hz; have HB := Lib.hid hb
          clear hz hb hlt
          go_wp2_with fail
          refine (one_any H1.out hB HX.out k false HB.out k rfl).mono ?_
          rintro e w5 ⟨rfl, rfl⟩
          go_wp2
          go_roundw
          case rel =>
            refine ⟨k + 1, by go_num, by omega, fun j hj => ?_, by first | rfl | trivial⟩
            by_cases hjk : j = k
            · subst hjk; rw [List.getElem?_drop]; exact HB.out
            · exact HZ.out j (by omega)
          case measure => simp [intOf]; omega
        | true =>
          have hzk : zerosL ((unpackB B).drop n) = k := zerosL_eq _ k (by have := HUL.out; have := HLF.out; rw [List.length_drop]; omega) hz (.inr (by rw [List.getElem?_drop]; exact hb))
          have HB := Lib.hid hb
          clear hb
          have HZK := Lib.hid hzk
          obtain ⟨q1, q2, q3, A', cap', q4, q5⟩ := H1.out.cells
          have q31 := q3 1
          have q32 := q3 2
          have hB2 := hB
          have w1k : IntKind.i64.wrap (2 * (k : Int)) = 2 * (k : Int) := IntWalk.i64_in _ (by have := HLF.out; omega)
          have w2k : IntKind.i64.wrap (2 * (k : Int) + 1) = 2 * (k : Int) + 1 := IntWalk.i64_in _ (by have := HLF.out; omega)
          have w3k : IntKind.i64.wrap ((k : Int) + 1) = (k : Int) + 1 := IntWalk.i64_in _ (by have := HLF.out; omega)
          clear q5 hzk hz
          by_cases c1 : 63 < k
          · have hok : ¬ rcOk (unpackB B) n 0 := fun h => by have := h.2.1; have := HZK.out; omega
            have hN : rcN (unpackB B) n 0 = n := by simp [rcN, hok]
            have hF : rcF (unpackB B) n 0 = 4 := by have := HZK.out; simp [rcF, this, c1]
            have c1I : (63 : Int) < (k : Int) := by omega
            have HOK := Lib.hid hok; have HNN := Lib.hid hN; have HFF := Lib.hid hF
            clear hok hN hF
            go_wp2_with fail
            refine (one_any H1.out hB2 HX.out k true HB.out k rfl).mono ?_
            rintro e w5 ⟨rfl, rfl⟩
            go_wp2
            go_ret
            exact ⟨by first | rfl | rw [if_neg HOK.out], by rw [HNN.out, HFF.out]; exact H1.out.set2⟩
          · have c1I : ¬ (63 : Int) < (k : Int) := by omega
            by_cases c2 : lf < 2 * k + 1
            · have hok : ¬ rcOk (unpackB B) n 0 := fun h => by have := h.2.2; have := HZK.out; have := HUL.out; have := HLF.out; omega
              have hN : rcN (unpackB B) n 0 = n := by simp [rcN, hok]
              have hF : rcF (unpackB B) n 0 = 10 := by
                have h1 := HZK.out
                have h2 : ¬ n + (2 * k + 1) ≤ (unpackB B).length := by have := HUL.out; have := HLF.out; omega
                simp [rcF, h1, c1, h2]
              have c2I : (lf : Int) < 2 * (k : Int) + 1 := by omega
              have HOK := Lib.hid hok; have HNN := Lib.hid hN; have HFF := Lib.hid hF
              clear hok hN hF
              go_wp2_with fail
              refine (one_any H1.out hB2 HX.out k true HB.out k rfl).mono ?_
              rintro e w5 ⟨rfl, rfl⟩
              go_wp2
              go_ret
              exact ⟨by first | rfl | rw [if_neg HOK.out], by rw [HNN.out, HFF.out]; exact H1.out.set2⟩
            · have c2I : ¬ (lf : Int) < 2 * (k : Int) + 1 := by omega
              have hok : rcOk (unpackB B) n 0 := ⟨rfl, by have := HZK.out; omega, by have := HZK.out; have := HUL.out; have := HLF.out; omega⟩
              have hg1 : n + k + (k + 1) ≤ (unpackB B).length := by have := HUL.out; have := HLF.out; omega
              have hN : rcN (unpackB B) n 0 = rgetN (unpackB B) (n + k) 0 (k + 1) := by have := HZK.out; simp [rcN, rgetN, hok, hg1, this]; omega
              have hF : rcF (unpackB B) n 0 = rgetF (unpackB B) (n + k) 0 (k + 1) := by
                have h1 := HZK.out
                have h2 : n + (2 * k + 1) ≤ (unpackB B).length := by omega
                simp [rcF, rgetF, h1, c1, h2, hg1]
              have hV : rcV (unpackB B) n 0 = rgetV (unpackB B) (n + k) 0 (k + 1) := by have := HZK.out; simp [rcV, rgetV, hok, hg1, this]
              have hpos : 1 ≤ rgetV (unpackB B) (n + k) 0 (k + 1) := by
                have hfst : (((unpackB B).drop (n + k)).take (k + 1)) = true :: (((unpackB B).drop (n + k + 1)).take k) := by
                  have hd : (unpackB B).drop (n + k) = true :: (unpackB B).drop (n + k + 1) := by
                    have hl := (List.getElem?_eq_some_iff.1 HB.out).1
                    rw [List.drop_eq_getElem_cons hl, (List.getElem?_eq_some_iff.1 HB.out).2]
                  rw [hd]; rfl
                have hv : rgetV (unpackB B) (n + k) 0 (k + 1) = bval (((unpackB B).drop (n + k)).take (k + 1)) := by simp [rgetV, hg1]
                rw [hv, hfst, bval_cons]
                have := Nat.two_pow_pos (((unpackB B).drop (n + k + 1)).take k).length
                simp only [Bool.toNat_true]; omega
              have hlt64 : rgetV (unpackB B) (n + k) 0 (k + 1) < 18446744073709551616 := by
                have hv : rgetV (unpackB B) (n + k) 0 (k + 1) = bval (((unpackB B).drop (n + k)).take (k + 1)) := by simp [rgetV, hg1]
                rw [hv]
                have h1 := bval_lt (((unpackB B).drop (n + k)).take (k + 1))
                have h2 : (((unpackB B).drop (n + k)).take (k + 1)).length ≤ 64 := by rw [List.length_take]; omega
                have h3 : 2 ^ (((unpackB B).drop (n + k)).take (k + 1)).length ≤ 2 ^ 64 := Nat.pow_le_pow_right (by decide) h2
                omega
              have HOK := Lib.hid hok; have HNN := Lib.hid hN; have HFF := Lib.hid hF; have HVV := Lib.hid hV
              have hnk : n + k ≤ 8 * B.length := by have := HLF.out; omega
              obtain ⟨t, ht⟩ : ∃ t, t = n + k := ⟨_, rfl⟩
              have HT := Lib.hid ht
              rw [← ht] at hnk hpos hlt64
              have e4 : IntKind.i64.wrap (t : Int) = (t : Int) := IntWalk.i64_in _ (by omega)
              have e5 : (n : Int) + (k : Int) = (t : Int) := by omega
              have A5 := Lib.hid (H1.out.set1 (m := t))
              have HNK := Lib.hid hnk
              obtain ⟨r, hr⟩ : ∃ r, rgetV (unpackB B) t 0 (k + 1) = r := ⟨_, rfl⟩
              rw [hr] at hpos hlt64
              have HR := Lib.hid hr
              have e6 : IntKind.u64.wrap ((r : Int) - 1) = (r : Int) - 1 := IntWalk.u64_in _ (by omega)
              clear hok hN hF hV hnk ht hg1 hr hpos hlt64
              go_wp2_with fail
              refine (one_any H1.out hB2 HX.out k true HB.out k rfl).mono ?_
              rintro e w5 ⟨rfl, rfl⟩
              go_wp2_with fail
              refine (get_any A5.out hB2 HX.out HNK.out (k + 1) (by omega) _ (by first | rfl | omega)).mono ?_
              rintro e w6 ⟨rfl, a6⟩
              have A6 := Lib.hid a6
              clear a6
              rw [HR.out]
              go_wp2
              go_ret
              exact ⟨by first | rfl | (rw [HVV.out, ← HT.out, HR.out]; rfl) | (rw [if_pos HOK.out, HVV.out, ← HT.out, HR.out]; rfl), by rw [HNN.out, HFF.out, ← HT.out]; exact A6.out⟩
      · have hzk : zerosL ((unpackB B).drop n) = k := zerosL_eq _ k (by have := HUL.out; have := HLF.out; rw [List.length_drop]; omega) hz (.inl (List.getElem?_eq_none (by have := HUL.out; have := HLF.out; rw [List.length_drop]; omega)))
        have hltI : ¬ (k : Int) < (lf : Int) := by omega
        have HZK := Lib.hid hzk
        obtain ⟨q1, q2, q3, A', cap', q4, q5⟩ := H1.out.cells
        have q31 := q3 1
        have q32 := q3 2
        have hB2 := hB
        have w1k : IntKind.i64.wrap (2 * (k : Int)) = 2 * (k : Int) := IntWalk.i64_in _ (by have := HLF.out; omega)
        have w2k : IntKind.i64.wrap (2 * (k : Int) + 1) = 2 * (k : Int) + 1 := IntWalk.i64_in _ (by have := HLF.out; omega)
        have w3k : IntKind.i64.wrap ((k : Int) + 1) = (k : Int) + 1 := IntWalk.i64_in _ (by have := HLF.out; omega)
        clear q5 hzk hz
        by_cases c1 : 63 < k
        · have hok : ¬ rcOk (unpackB B) n 0 := fun h => by have := h.2.1; have := HZK.out; omega
          have hN : rcN (unpackB B) n 0 = n := by simp [rcN, hok]
          have hF : rcF (unpackB B) n 0 = 4 := by have := HZK.out; simp [rcF, this, c1]
          have c1I : (63 : Int) < (k : Int) := by omega
          have HOK := Lib.hid hok; have HNN := Lib.hid hN; have HFF := Lib.hid hF
          clear hok hN hF
          go_wp2
          go_ret
          exact ⟨by first | rfl | rw [if_neg HOK.out], by rw [HNN.out, HFF.out]; exact H1.out.set2⟩
        · have c1I : ¬ (63 : Int) < (k : Int) := by omega
          by_cases c2 : lf < 2 * k + 1
          · have hok : ¬ rcOk (unpackB B) n 0 := fun h => by have := h.2.2; have := HZK.out; have := HUL.out; have := HLF.out; omega
            have hN : rcN (unpackB B) n 0 = n := by simp [rcN, hok]
            have hF : rcF (unpackB B) n 0 = 10 := by
              have h1 := HZK.out
              have h2 : ¬ n + (2 * k + 1) ≤ (unpackB B).length := by have := HUL.out; have := HLF.out; omega
              simp [rcF, h1, c1, h2]
            have c2I : (lf : Int) < 2 * (k : Int) + 1 := by omega
            have HOK := Lib.hid hok; have HNN := Lib.hid hN; have HFF := Lib.hid hF
            clear hok hN hF
            go_wp2
            go_ret
            exact ⟨by first | rfl | rw [if_neg HOK.out], by rw [HNN.out, HFF.out]; exact H1.out.set2⟩
          · exfalso; omega
  · have hok : ¬ rcOk (unpackB B) n f := fun h => hf h.1
    have hN : rcN (unpackB B) n f = n := by simp [rcN, hok]
    have hF : rcF (unpackB B) n f = f := by simp [rcF, hf]
    rw [if_neg hok, hN, hF]
    have hfb : (f != 0) = true := by simpa using hf
    clear hok hN hF hUL hf
    go_enter Tryz.func103, Tryz.ntmps103
    go_wp2
    go_ret
    exact ⟨rfl, H.out⟩
end Go.Proofs.YtfpikgkbccgchaaGreatDoor

namespace Go.Proofs.YtfpikgkbccgchaaGreatDoor
set_option linter.unusedVariables false
set_option linter.unusedSimpArgs false
open Go.RowKit

/-- What End answers: the fault, or 11 if more than seven bits are left, or one of those is 1. -/
def rendV (L : List Bool) (n : Nat) (f : Int) : Int := if f = 0 then (if 7 < L.length - n then 11 else if (L.drop n).any id then 11 else 0) else f

set_option maxRecDepth 100000 in
theorem end_any {w0 w : World} {p : Nat} {V : Value} {B : List Nat} {n : Nat} {f : Int} (h : AtR w0 p V B n f w) (hB : B.length ≤ 1000000) (hBx : ∀ x ∈ B, x < 256) (hn : n ≤ 8 * B.length) :
    Calls Tryz.prog 105 #[.pointer (some ⟨p, 0, none⟩)] w fun e w' => e = .returned (.int .i64 (rendV (unpackB B) n f)) ∧ Kp No w w' := by
  obtain ⟨h1, h2, h3, A, cap, h4, h5⟩ := h.cells
  have H := Lib.hid h
  have hUL := unpackB_len B
  clear h h5 h1 h3 h4
  obtain ⟨r, hr⟩ : ∃ r, r = rendV (unpackB B) n f := ⟨_, rfl⟩
  rw [← hr]
  have HRR := Lib.hid hr
  clear hr
  by_cases hf : f = 0
  · subst hf
    have HN := Lib.hid hn; have HUL := Lib.hid hUL; have HX := Lib.hid hBx
    obtain ⟨lf, hlf⟩ : ∃ lf, n + lf = 8 * B.length := ⟨8 * B.length - n, by omega⟩
    have hlI : 8 * (B.length : Int) - (n : Int) = (lf : Int) := by omega
    have HLF := Lib.hid hlf
    clear hUL hBx hn hlf
    go_enter Tryz.func105, Tryz.ntmps105
    go_wp2_with fail
    refine (left_any H.out hB HN.out).mono ?_
    rintro e w1 ⟨rfl, k1⟩
    rw [hlI]
    have H1 := Lib.hid (H.out.kpNo k1)
    have K1 := Lib.hid k1
    clear k1 hlI
    by_cases h7 : 7 < lf
    · have h7I : (7 : Int) < (lf : Int) := by omega
      obtain rfl : r = 11 := by
        rw [HRR.out]; unfold rendV
        rw [if_pos rfl, if_pos (by have := HUL.out; have := HLF.out; omega)]
      go_wp2
      go_ret
      exact ⟨rfl, K1.out⟩
    · have h7I : ¬ (7 : Int) < (lf : Int) := by omega
      have hrr : r = if ((unpackB B).drop n).any id then 11 else 0 := by
        rw [HRR.out]; unfold rendV
        rw [if_pos rfl, if_neg (by have := HUL.out; have := HLF.out; omega)]
      have HR2 := Lib.hid hrr
      clear hrr
      go_wp2
      go_loopw [21] (fun i wr => ∃ k : Nat, i = .int .i64 k ∧ k ≤ lf ∧ (∀ j, j < k → ((unpackB B).drop n)[j]? = some false) ∧ wr = w1) (fun i _ => lf - (intOf i).toNat)
      case atStart => exact ⟨0, rfl, by omega, by omega, rfl⟩
      case round =>
        obtain ⟨k, rfl, hk, hz, rfl⟩ := hrel
        by_cases hlt : k < lf
        · obtain ⟨b, hb⟩ : ∃ b, (unpackB B)[n + k]? = some b := ⟨_, List.getElem?_eq_getElem (by have := HUL.out; have := HLF.out; omega)⟩
          have hltI : (k : Int) < (lf : Int) := by omega
          have hwk : IntKind.i64.wrap ((k : Int) + 1) = (k : Int) + 1 := IntWalk.i64_in _ (by have := HLF.out; omega)
          have HZ := Lib.hid hz; have HB := Lib.hid hb
          clear hz hb hlt
          cases b with
          | false =>
            go_wp2_with fail
            refine (one_any H1.out hB HX.out k false HB.out k rfl).mono ?_
            rintro e w5 ⟨rfl, rfl⟩
            go_wp2
            go_roundw
            case rel =>
              refine ⟨k + 1, by go_num, by omega, fun j hj => ?_, by first | rfl | trivial⟩
              by_cases hjk : j = k
              · subst hjk; rw [List.getElem?_drop]; exact HB.out
              · exact HZ.out j (by omega)
            case measure => simp [intOf]; omega
          | true =>
            obtain rfl : r = 11 := by
              rw [HR2.out, if_pos]
              simp only [List.any_eq_true]
              exact ⟨true, List.mem_of_getElem? (i := k) (by rw [List.getElem?_drop]; exact HB.out), rfl⟩
            go_wp2_with fail
            refine (one_any H1.out hB HX.out k true HB.out k rfl).mono ?_
            rintro e w5 ⟨rfl, rfl⟩
            go_wp2
            go_ret
            exact ⟨rfl, K1.out⟩
        · obtain rfl : r = 0 := by
            rw [HR2.out, if_neg]
            simp only [List.any_eq_true]
            rintro ⟨b, hm, hbt⟩
            obtain ⟨j, hj⟩ := List.mem_iff_getElem?.1 hm
            have hjl := (List.getElem?_eq_some_iff.1 hj).1
            rw [List.length_drop] at hjl
            have := hz j (by have := HUL.out; have := HLF.out; omega)
            rw [hj] at this
            simp at this hbt
            rw [this] at hbt; simp at hbt
          have hltI : ¬ (k : Int) < (lf : Int) := by omega
          clear hz
          go_wp2
          go_ret
          exact ⟨rfl, K1.out⟩
  · obtain rfl : r = f := by rw [HRR.out]; simp [rendV, hf]
    have hfb : (r != 0) = true := by simpa using hf
    clear hUL hf
    go_enter Tryz.func105, Tryz.ntmps105
    go_wp2
    go_ret
    exact ⟨rfl, Kp.refl _ _⟩
end Go.Proofs.YtfpikgkbccgchaaGreatDoor

namespace Go.Proofs.YtfpikgkbccgchaaGreatDoor
set_option linter.unusedVariables false
set_option linter.unusedSimpArgs false
open Go.RowKit

section
variable {α : Type} {K : Kd α} {P : Program} {t e : TypeId} {bytes : Nat}
/-- 's[:hi]', as a list. -/
theorem Rd.upto (E : ElT P t e K bytes) {w : World} {v : Value} {l : List α} (h : Rd K w v l) (p : Nat) (hp : p ≤ l.length) (x : Int) (hx : x = p) :
    ∃ v2, (∀ w', (Instr.slice t v none (some (.int .i64 x)) none).run P w' = .ok v2 w') ∧ Rd K w v2 (l.take p) ∧ (∀ g, v2.ownBlock = some g → v.ownBlock = some g) := by
  rcases h with ⟨⟨A, c, rfl⟩, rfl⟩ | ⟨g, o, cap, rfl, h1, h2, h3⟩
  · obtain rfl : p = 0 := by simpa using hp
    subst hx
    exact ⟨_, fun w' => run_slice_e_hi E A c w', by simpa using Rd.empty K w A c, fun g hg => hg⟩
  · refine ⟨_, run_slice_hi E g o l.length cap p (by omega) x hx, .inr ⟨g, o, cap, by simp [Nat.min_eq_left hp], by simp; omega, h2, fun j u hu => ?_⟩, fun g' hg' => hg'⟩
    rw [← K.encs_take, List.getElem?_take] at hu
    split at hu
    · exact h3 j u hu
    · exact absurd hu (by simp)

/-- v reads as l, and lies in memory that is newer than w0. -/
structure NewS (K : Kd α) (e : TypeId) (w0 w : World) (v : Value) (l : List α) : Prop where
  own : Own K e w v l
  ge : ∀ g, v.ownBlock = some g → w0.heap.size ≤ g
  kp : Kp No w0 w
theorem NewS.nil (K : Kd α) (e : TypeId) (w : World) : NewS K e w w (.slice none 0 0) [] := ⟨Own.nil _ _ _, by simp [Value.ownBlock], Kp.refl _ _⟩
theorem NewS.kpNo {w0 w w' : World} {v : Value} {l : List α} (h : NewS K e w0 w v l) (hk : Kp No w w') : NewS K e w0 w' v l := ⟨h.own.kpNo hk, h.ge, h.kp.no hk⟩
theorem NewS.alloc {w0 w : World} {v : Value} {l : List α} (h : NewS K e w0 w v l) (o : Obj) : NewS K e w0 (w.alloc o) v l := h.kpNo ((Kp.refl _ _).alloc _)
theorem NewS.app {w0 w w1 w' : World} {v v' : Value} {l l' : List α} {n : Nat} (h : NewS K e w0 w v l) (hk : Kp No w w1) (k1 : Own K e w' v' l') (k2 : Kp (fun k => v.ownBlock = some k) w1 w') (k3 : ∀ g, v'.ownBlock = some g → v.ownBlock = some g ∨ n ≤ g) (hn : w.heap.size ≤ n) : NewS K e w0 w' v' l' := by
  have hs := h.kp.size
  have hs2 := hk.size
  refine ⟨k1, fun g hg => ?_, (h.kp.no hk).trans' k2 fun j hj e => ?_⟩
  · rcases k3 g hg with e | e
    · exact h.ge g e
    · omega
  · have := h.ge j e; omega
theorem NewS.app2 {w0 w w1 w' : World} {v v' : Value} {l l' : List α} {n : Nat} (k1 : Own K e w' v' l') (k2 : Kp (fun k => v.ownBlock = some k) w1 w') (k3 : ∀ g, v'.ownBlock = some g → v.ownBlock = some g ∨ n ≤ g) (hk : Kp No w w1) (h : NewS K e w0 w v l) (hn : w.heap.size ≤ n) : NewS K e w0 w' v' l' := h.app hk k1 k2 k3 hn
theorem NewS.empty (K : Kd α) (e : TypeId) (w : World) : NewS K e w (w.alloc (.cells #[] e)) (.slice (some ⟨w.heap.size, 0, none⟩) 0 0) ([] : List α) :=
  ⟨Own.lit K e w [] [] rfl (by simp), fun g hg => by simp [Value.ownBlock] at hg; omega, (Kp.refl _ _).alloc _⟩
end

end Go.Proofs.YtfpikgkbccgchaaGreatDoor

namespace Go.Proofs.YtfpikgkbccgchaaGreatDoor
set_option linter.unusedVariables false
set_option linter.unusedSimpArgs false
open Go.RowKit

/-- A bit's cell. -/
def QK : Kd Bool := { sz := 1, enc := fun x => [.bool x], len := fun _ => rfl, one := by intro a v hv; simp at hv; subst hv; rfl, pos := by decide }
theorem elQ : ElT Tryz.prog 153 4 QK 1 := ElT.of (z := .bool false) (by kernel_rfl) (by kernel_rfl) rfl

set_option maxRecDepth 100000 in
theorem rbits_any (w : World) (n many : Nat) (hn : n < 18446744073709551616) (hm : many ≤ 64) (x y : Int) (hx : x = n) (hy : y = many) :
    Calls Tryz.prog 94 #[.int .u64 x, .int .i64 y] w fun e w' => ∃ v, e = .returned v ∧ NewS QK 4 w w' v (nbits n many) := by
  subst hx hy
  go_enter Tryz.func94, Tryz.ntmps94
  go_wp2
  go_loopw [0, 5, 6] (fun a v i wr => ∃ k : Nat, i = .int .i64 k ∧ k ≤ many ∧ a = .int .u64 ((n / 2 ^ k : Nat) : Int) ∧ NewS QK 4 w wr v (nbits n k)) (fun _ _ i _ => many - (intOf i).toNat)
  case atStart => exact ⟨0, rfl, by omega, by simp, NewS.nil _ _ _⟩
  case round =>
    obtain ⟨k, rfl, hk, rfl, hv⟩ := hrel
    obtain ⟨A, cap, rfl⟩ := hv.own.rd.shape
    have HV := Lib.hid hv
    clear hv
    have hnl := nbits_len n k
    by_cases hlt : k < many
    · obtain ⟨q, hq⟩ : ∃ q, q = n / 2 ^ k := ⟨_, rfl⟩
      obtain ⟨b, hb⟩ : ∃ b, b = decide (q % 2 = 1) := ⟨_, rfl⟩
      have e1 : ((q : Int) % 2 == 1) = b := by
        rw [hb]
        by_cases c : q % 2 = 1
        · simp [c]; omega
        · simp [c]; omega
      have hq2 : n / 2 ^ (k + 1) = q / 2 := by rw [hq, Nat.pow_succ, Nat.div_div_eq_div_mul]
      obtain ⟨q2, hqq⟩ : ∃ q2, q2 = q / 2 := ⟨_, rfl⟩
      have e2 : (q : Int) / 2 = (q2 : Int) := by omega
      have hltI : (k : Int) < (many : Int) := by omega
      have hwk : IntKind.i64.wrap ((k : Int) + 1) = (k : Int) + 1 := IntWalk.i64_in _ (by omega)
      have hq64 : q < 18446744073709551616 := by rw [hq]; exact Nat.lt_of_le_of_lt (Nat.div_le_self _ _) hn
      have e3 : IntKind.u64.wrap (q2 : Int) = (q2 : Int) := IntWalk.u64_in _ (by omega)
      have hnb : nbits n (k + 1) = [b] ++ nbits n k := by rw [hb, hq]; rfl
      have HNB := Lib.hid hnb; have HQ2 := Lib.hid (hq2.trans hqq.symm)
      have hlb : (nbits n k).length ≤ 64 := by omega
      rw [← hq]
      generalize nbits n k = sl at *
      clear hnb hq2 hqq hb hq hlt hnl hn
      go_wp2_with (at_builtin; refine wpl_append elQ rfl (.tmp 15) (.tmp 16) rfl rfl rfl (l := [b]) (m := sl) ?c1 ?c2 ?c3 ?c4 ?c5)
      case c1 => exact Own.lit QK 4 _ [.bool b] [b] rfl (by unfold maxLen; simp)
      case c2 => exact HV.out.own.rd.alloc _
      case c3 => show 1 + sl.length ≤ maxLen; unfold maxLen; omega
      case c4 => show (1 + sl.length) * 1 ≤ _; omega
      case c5 =>
        intro v' w' k1 k2 k3
        have K1 := Lib.hid k1; have K2 := Lib.hid k2; have K3 := Lib.hid k3
        clear k1 k2 k3
        go_wp2
        go_roundw
        case rel =>
          have hsz := HV.out.kp.size
          refine ⟨k + 1, by go_num, by omega, by rw [HQ2.out], by rw [HNB.out]; exact K1.out, fun g hg => ?_, (HV.out.kp.alloc _).trans' K2.out fun j hj e => ?_⟩
          · rcases K3.out g hg with h | h
            · simp [Value.ownBlock] at h; omega
            · first | omega | (simp at h; omega)
          · simp [Value.ownBlock] at e; omega
        case measure => simp [intOf]; omega
    · obtain rfl : k = many := by omega
      have hd0 : ¬ (k : Int) < (k : Int) := by omega
      clear hnl
      go_wp2
      go_ret
      exact ⟨_, rfl, by have := HV.out; rwa [nbits_len] at this⟩
end Go.Proofs.YtfpikgkbccgchaaGreatDoor

namespace Go.Proofs.YtfpikgkbccgchaaGreatDoor
set_option linter.unusedVariables false
set_option linter.unusedSimpArgs false
open Go.RowKit

theorem blen_step (m k : Nat) (h : 1 < m / 2 ^ k) : blen (m / 2 ^ k) = blen (m / 2 ^ (k + 1)) + 1 := by
  rw [blen_pos (by omega), Nat.div_div_eq_div_mul, ← Nat.pow_succ]

set_option maxRecDepth 100000 in
theorem rcountb_any (w : World) (n : Nat) (hn : n < 18446744073709551615) :
    Calls Tryz.prog 93 #[.int .u64 (n : Int)] w fun e w' => ∃ v, e = .returned v ∧ NewS QK 4 w w' v (cbits n) := by
  obtain ⟨m, hm⟩ : ∃ m, m = n + 1 := ⟨_, rfl⟩
  have hmI : (n : Int) + 1 = (m : Int) := by omega
  have hmw : IntKind.u64.wrap (m : Int) = (m : Int) := IntWalk.u64_in _ (by omega)
  have HM := Lib.hid hm
  have hm64 : m < 18446744073709551616 := by omega
  have hm1 : 1 ≤ m := by omega
  clear hm hn
  go_enter Tryz.func93, Tryz.ntmps93
  go_wp2
  go_loopw [3, 4] (fun i a wr => ∃ k : Nat, i = .int .i64 k ∧ k ≤ 64 ∧ a = .int .u64 ((m / 2 ^ k : Nat) : Int) ∧ 1 ≤ m / 2 ^ k ∧ blen m = k + blen (m / 2 ^ k) ∧ wr = w) (fun _ a _ => (intOf a).toNat)
  case atStart => exact ⟨0, rfl, by omega, by simp, by simpa using hm1, by simp, rfl⟩
  case round =>
    obtain ⟨k, rfl, hk, rfl, hq1, hbl, rfl⟩ := hrel
    have hk63 : k ≤ 63 := by
      rcases Nat.lt_or_ge 63 k with h | h
      · exfalso
        have : 2 ^ 64 ≤ 2 ^ k := Nat.pow_le_pow_right (by decide) h
        rw [Nat.div_eq_of_lt (by omega)] at hq1
        omega
      · exact h
    by_cases hgt : 1 < m / 2 ^ k
    · have hst := blen_step m k hgt
      have hd : m / 2 ^ (k + 1) = m / 2 ^ k / 2 := by rw [Nat.pow_succ, Nat.div_div_eq_div_mul]
      obtain ⟨q, hq⟩ : ∃ q, q = m / 2 ^ k := ⟨_, rfl⟩
      obtain ⟨q2, hq2⟩ : ∃ q2, q2 = m / 2 ^ (k + 1) := ⟨_, rfl⟩
      rw [← hq] at hq1 hbl hgt hst hd ⊢
      rw [← hq2] at hst hd
      have hgtI : (1 : Int) < (q : Int) := by omega
      have e2 : (q : Int) / 2 = (q2 : Int) := by omega
      have hqm : q < 18446744073709551616 := by rw [hq]; exact Nat.lt_of_le_of_lt (Nat.div_le_self _ _) hm64
      have e3 : IntKind.u64.wrap (q2 : Int) = (q2 : Int) := IntWalk.u64_in _ (by omega)
      have hwk : IntKind.i64.wrap ((k : Int) + 1) = (k : Int) + 1 := IntWalk.i64_in _ (by omega)
      have F1 := Lib.hid (show 1 ≤ q2 by omega)
      have F2 := Lib.hid (show blen m = k + 1 + blen q2 by omega)
      have F3 := Lib.hid hq2
      have F4 := Lib.hid (show q2 < q by omega)
      clear hq1 hbl hgt hst hd hq hq2 hqm hm64 hm1
      go_wp2
      go_roundw
      case rel => exact ⟨k + 1, by go_num, by omega, by rw [F3.out], by rw [← F3.out]; exact F1.out, by rw [← F3.out]; exact F2.out, by first | rfl | trivial⟩
      case measure => have := F4.out; simp [intOf]; omega
    · have hq : m / 2 ^ k = 1 := by omega
      rw [hq] at hbl ⊢
      rw [show ((1 : Nat) : Int) = 1 from rfl]
      have h1 : blen 1 = 1 := by rw [blen_pos (by omega), show 1 / 2 = 0 from rfl, blen_zero]
      rw [h1] at hbl
      have HBL := Lib.hid hbl
      clear hq1 hgt hq hbl h1
      go_wp2
      go_loopw [5, 6] (fun v i wr' => ∃ j : Nat, i = .int .i64 j ∧ j ≤ k ∧ NewS QK 4 wr wr' v (List.replicate j false)) (fun _ i _ => k - (intOf i).toNat)
      case atStart => exact ⟨0, rfl, by omega, NewS.nil _ _ _⟩
      case round =>
        obtain ⟨j, rfl, hj, hv⟩ := hrel
        obtain ⟨A, cap, rfl⟩ := hv.own.rd.shape
        have HV := Lib.hid hv
        clear hv
        have hlr : (List.replicate j false).length ≤ 64 := by simp; omega
        by_cases hlt : j < k
        · have hltI : (j : Int) < (k : Int) := by omega
          have hwk : IntKind.i64.wrap ((j : Int) + 1) = (j : Int) + 1 := IntWalk.i64_in _ (by omega)
          have HSN := Lib.hid (List.replicate_succ' (n := j) (a := false))
          generalize List.replicate j false = sl at *
          clear hlt
          go_wp2_with (at_builtin; refine wpl_append elQ rfl (.tmp 20) (.tmp 21) rfl rfl rfl (l := sl) (m := [false]) ?c1 ?c2 ?c3 ?c4 ?c5)
          case c1 => exact (HV.out.alloc _).own
          case c2 => exact Rd.litAt QK 4 _ _ [false] rfl (by unfold maxLen; simp) _ _ rfl rfl
          case c3 => show sl.length + 1 ≤ maxLen; unfold maxLen; omega
          case c4 => show (sl.length + 1) * 1 ≤ _; omega
          case c5 =>
            intro v' w' k1 k2 k3
            have Q := Lib.hid (HV.out.app ((Kp.refl _ _).alloc _) k1 k2 k3 (by omega))
            clear k1 k2 k3
            go_wp2
            go_roundw
            case rel => exact ⟨j + 1, by go_num, by omega, by rw [HSN.out]; exact Q.out⟩
            case measure => simp [intOf]; omega
        · obtain rfl : j = k := by omega
          have hd0 : ¬ (j : Int) < (j : Int) := by omega
          have hwk : IntKind.i64.wrap ((j : Int) + 1) = (j : Int) + 1 := IntWalk.i64_in _ (by omega)
          have hm64' := Lib.hid hm64
          have HCB : Hid (cbits n = List.replicate j false ++ nbits m (j + 1)) := by
            show cbits n = _
            unfold cbits
            rw [← HM.out, HBL.out, Nat.add_sub_cancel]
          generalize List.replicate j false = sl at *
          clear hlt hm64 hm1
          go_wp2_with fail
          refine (rbits_any _ m (j + 1) hm64'.out (by omega) _ _ (by first | rfl | omega) (by first | rfl | omega)).mono ?_
          rintro e w5 ⟨v5, rfl, hv5⟩
          obtain ⟨A5, cap5, rfl⟩ := hv5.own.rd.shape
          have hl5 : (nbits m (j + 1)).length ≤ 64 := by rw [nbits_len]; omega
          have HV5 := Lib.hid hv5
          clear hv5
          generalize nbits m (j + 1) = s5 at *
          go_wp2_with (at_builtin; refine wpl_append elQ rfl (.tmp 23) (.tmp 28) rfl rfl rfl (l := sl) (m := s5) ?d1 ?d2 ?d3 ?d4 ?d5)
          case d1 => exact HV.out.own.kpNo HV5.out.kp
          case d2 => exact HV5.out.own.rd
          case d3 => show sl.length + s5.length ≤ maxLen; unfold maxLen; omega
          case d4 => show (sl.length + s5.length) * 1 ≤ _; omega
          case d5 =>
            intro v' w' k1 k2 k3
            have Q := Lib.hid (HV.out.app HV5.out.kp k1 k2 k3 HV5.out.kp.size)
            clear k1 k2 k3
            go_wp2
            go_ret
            exact ⟨_, rfl, by rw [HCB.out]; exact Q.out⟩
end Go.Proofs.YtfpikgkbccgchaaGreatDoor

namespace Go.Proofs.YtfpikgkbccgchaaGreatDoor
set_option linter.unusedVariables false
set_option linter.unusedSimpArgs false
open Go.RowKit

theorem pow_fact : ∀ k : Fin 8, 128 / 2 ^ k.val = 2 ^ (7 - k.val) := by decide
theorem byteOf_add (c : List Bool) (h : c.length < 8) : byteOf (c ++ [true]) = byteOf (c ++ [false]) + 128 / 2 ^ c.length := by
  rw [byteOf_bit c _ h, byteOf_bit c _ h, pow_fact ⟨c.length, h⟩]
  simp only [Bool.toNat_true, Bool.toNat_false, Nat.add_zero, Nat.add_mul, Nat.one_mul]
theorem packB_trueA (l : List Bool) : ∃ x, (packB (l ++ [false]))[l.length / 8]? = some x ∧ x + 128 / 2 ^ (l.length % 8) < 256 ∧ packB (l ++ [true]) = (packB (l ++ [false])).set (l.length / 8) (x + 128 / 2 ^ (l.length % 8)) := by
  have h3 := lastB_len l
  have hh := packB_head_len l
  have ha := byteOf_add (lastB l) (by omega)
  rw [h3] at ha
  refine ⟨byteOf (lastB l ++ [false]), ?_, ?_, ?_⟩
  · rw [packB_last, List.getElem?_append_right (by omega), hh]; simp
  · rw [← ha]; exact byteOf_lt _ (by rw [List.length_append, h3, List.length_singleton]; omega)
  · rw [packB_last, packB_last, List.set_append_right _ _ (by omega), hh, Nat.sub_self, ← ha]
    rfl
theorem Rd.bitAt {w : World} {l : List Bool} {g o n cap : Nat} (h : Rd QK w (.slice (some ⟨g, o, none⟩) n cap) l) {i : Nat} {x : Bool} (hx : l[i]? = some x) : w.cell? ⟨g, o + i, none⟩ = some (.bool x) := by
  have := h.at rfl hx (j := 0) rfl
  simpa [QK] using this
end Go.Proofs.YtfpikgkbccgchaaGreatDoor

namespace Go.Proofs.YtfpikgkbccgchaaGreatDoor
set_option linter.unusedVariables false
set_option linter.unusedSimpArgs false
open Go.RowKit

set_option maxRecDepth 100000 in
theorem rbytes_any {w : World} {v : Value} {l : List Bool} (h : Rd QK w v l) (hl : l.length ≤ 1000000) : Calls Tryz.prog 96 #[v] w fun e w' => ∃ v', e = .returned v' ∧ NewS BK 5 w w' v' (packB l) := by
  obtain ⟨A, cap, rfl⟩ := h.shape
  have H := Lib.hid h
  clear h
  go_enter Tryz.func96, Tryz.ntmps96
  go_wp2
  go_loopw [3, 4] (fun b i wr => ∃ k : Nat, i = .int .i64 k ∧ k ≤ l.length ∧ NewS BK 5 w wr b (packB (l.take k))) (fun _ i _ => l.length - (intOf i).toNat)
  case atStart => exact ⟨0, rfl, by omega, by rw [List.take_zero, packB_nil]; exact NewS.nil _ _ _⟩
  case round =>
    obtain ⟨k, rfl, hk, hv⟩ := hrel
    obtain ⟨A1, cap1, rfl⟩ := hv.own.rd.shape
    have HR := Lib.hid (H.out.kpNo hv.kp)
    have HV := Lib.hid hv
    clear hv
    by_cases hlt : k < l.length
    · obtain ⟨b, hb⟩ : ∃ b, l[k]? = some b := ⟨_, List.getElem?_eq_getElem hlt⟩
      rcases H.out with ⟨hv, he⟩ | ⟨g, o, cap', hv, _⟩
      · rw [he] at hlt; simp at hlt
      simp only [Value.slice.injEq] at hv
      obtain ⟨rfl, _, rfl⟩ := hv
      have hbc := HR.out.bitAt hb
      have hsn : l.take (k + 1) = l.take k ++ [b] := by rw [List.take_add_one, hb]; rfl
      have hkl : (l.take k).length = k := by rw [List.length_take]; omega
      have hpl := packB_len (l.take k)
      have hpf := packB_false (l.take k)
      obtain ⟨x, hx1, hx2, hx3⟩ := packB_trueA (l.take k)
      rw [hkl] at hpl hpf hx1 hx2 hx3
      generalize l.take k = t at *
      have HSN := Lib.hid hsn
      obtain ⟨d, hd⟩ : ∃ d, d = k / 8 := ⟨_, rfl⟩
      obtain ⟨m, hm⟩ : ∃ m, m = k % 8 := ⟨_, rfl⟩
      rw [← hd] at hx1 hx3
      rw [← hm] at hx2 hx3 hpf
      have hpb : (packB t).length ≤ 200000 := by omega
      have hltI : (k : Int) < (l.length : Int) := by omega
      have hm8 : m < 8 := by omega
      have hT1 : (k : Int) % 8 = (m : Int) := by omega
      have hD1 : (k : Int) / 8 = (d : Int) := by omega
      have hD3 : IntKind.i64.wrap (d : Int) = (d : Int) := IntWalk.i64_in _ (by omega)
      have hD4 : IntKind.i64.wrap (m : Int) = (m : Int) := IntWalk.i64_in _ (by omega)
      have hwk : IntKind.i64.wrap ((k : Int) + 1) = (k : Int) + 1 := IntWalk.i64_in _ (by omega)
      have HX1 := Lib.hid hx1; have HX3 := Lib.hid hx3; have HPF := Lib.hid hpf; have HX2 := Lib.hid hx2
      have hbb := hb
      clear hsn hkl hpl hpf hx1 hx2 hx3 hd hm hlt hb
      by_cases hm0 : m = 0
      · have hm0I : ((m : Int) == 0) = true := by simp [hm0]
        have hq : packB t ++ [0] = packB (t ++ [false]) := by rw [HPF.out, if_pos hm0]
        have HQ := Lib.hid hq
        have HBB := Lib.hid hbb
        clear hq hm0 hbb
        go_wp2_with (at_builtin; refine wpl_append elB rfl (.tmp 16) (.tmp 17) rfl rfl rfl (l := packB t) (m := [0]) ?c1 ?c2 ?c3 ?c4 ?c5)
        case c1 => exact (HV.out.alloc _).own
        case c2 => exact Rd.litAt BK 5 _ _ [0] rfl (by unfold maxLen; simp) _ _ rfl rfl
        case c3 => show (packB t).length + 1 ≤ maxLen; unfold maxLen; omega
        case c4 => show ((packB t).length + 1) * 1 ≤ _; omega
        case c5 =>
          intro v' w' k1 k2 k3
          have q0 := HV.out.app ((Kp.refl _ _).alloc _) k1 k2 k3 (by omega)
          rw [HQ.out] at q0
          obtain ⟨A5, q5, rfl⟩ := q0.own.rd.shape
          have Q := Lib.hid q0
          clear k1 k2 k3 q0
          rcases Q.out.own.b with ⟨e1, e2⟩ | ⟨g5, cap5, e1, e2, e3⟩
          · have := HX1.out; rw [e2] at this; simp at this
          simp only [Value.slice.injEq] at e1
          obtain ⟨rfl, _, rfl⟩ := e1
          have HR5 := Lib.hid (H.out.kpNo Q.out.kp)
          have hbc5 := HR5.out.bitAt HBB.out
          have hdl : (d : Int) < ((packB (t ++ [false])).length : Int) := by have := (List.getElem?_eq_some_iff.1 HX1.out).1; omega
          cases b with
          | false =>
            go_wp2
            go_roundw
            case rel => exact ⟨k + 1, by go_num, by omega, by rw [HSN.out]; exact Q.out⟩
            case measure => simp [intOf]; omega
          | true =>
            have hxc := Q.out.own.rd.byteAt HX1.out
            rw [Nat.zero_add] at hxc
            have hxf := Q.out.own.free d
            go_wp2
            go_loopw [5, 6] (fun a i wr' => ∃ j : Nat, i = .int .i64 j ∧ j ≤ m ∧ a = .int .u8 ((128 / 2 ^ j : Nat) : Int) ∧ wr' = w') (fun _ i _ => m - (intOf i).toNat)
            case atStart => exact ⟨0, rfl, by omega, rfl, rfl⟩
            case round =>
              obtain ⟨j, rfl, hj, rfl, rfl⟩ := hrel
              by_cases hjm : j < m
              · have hjI : (j : Int) < (m : Int) := by omega
                have hwj : IntKind.i64.wrap ((j : Int) + 1) = (j : Int) + 1 := IntWalk.i64_in _ (by omega)
                obtain ⟨z, hz⟩ : ∃ z, z = 128 / 2 ^ j := ⟨_, rfl⟩
                obtain ⟨z2, hz2⟩ : ∃ z2, z2 = 128 / 2 ^ (j + 1) := ⟨_, rfl⟩
                have hzz : z2 = z / 2 := by rw [hz, hz2, Nat.pow_succ, Nat.div_div_eq_div_mul]
                have hz128 : z ≤ 128 := by rw [hz]; exact Nat.div_le_self _ _
                rw [← hz]
                have ez1 : (z : Int) / 2 = (z2 : Int) := by omega
                have ez2 : IntKind.u8.wrap (z2 : Int) = (z2 : Int) := IntWalk.u8_in _ (by omega)
                have HZ2 := Lib.hid hz2
                clear hz hz2 hzz hz128 hjm
                go_wp2
                go_roundw
                case rel => exact ⟨j + 1, by go_num, by omega, by rw [HZ2.out], by first | rfl | trivial⟩
                case measure => simp [intOf]; omega
              · obtain rfl : j = m := by omega
                have hjI : ¬ (j : Int) < (j : Int) := by omega
                obtain ⟨P, hP⟩ : ∃ P, P = 128 / 2 ^ j := ⟨_, rfl⟩
                obtain ⟨y, hy⟩ : ∃ y, y = x + P := ⟨_, rfl⟩
                have hy256 : y < 256 := by have := HX2.out; rw [← hP] at this; omega
                have ey1 : (x : Int) + (P : Int) = (y : Int) := by omega
                have ey2 : IntKind.u8.wrap (y : Int) = (y : Int) := IntWalk.u8_in _ (by omega)
                have hset := HX3.out
                rw [← hP, ← hy] at hset
                have HSET := Lib.hid hset
                rw [← hP]
                clear hP hy hset hjm hjI
                go_wp2
                go_roundw
                case rel =>
                  have ho := Q.out.own.setByte d y (by omega)
                  rw [← HSET.out] at ho
                  have hl : (packB (t ++ [false])).length = (packB (t ++ [true])).length := by rw [HSET.out, List.length_set]
                  rw [hl] at ho
                  refine ⟨k + 1, by go_num, by omega, ?_⟩
                  rw [HSN.out, hl]
                  exact ⟨ho, fun g hg => Q.out.ge g hg, Q.out.kp.trans' ((Kp.refl (fun k => k = g5) _).setCell (p := ⟨g5, d, none⟩) (fun _ => rfl) _) (fun k hk e => by have := Q.out.ge g5 rfl; have e : k = g5 := e; omega)⟩
                case measure => simp [intOf]; omega
      · have hm0I : ((m : Int) == 0) = false := by simp [hm0]
        have hq : packB t = packB (t ++ [false]) := by rw [HPF.out, if_neg hm0]
        have HBB := Lib.hid hbb
        have q0 := HV.out
        rw [hq] at q0 ⊢
        have Q := Lib.hid q0
        clear hq hm0 hbb q0 hpb HV
        rcases Q.out.own.b with ⟨e1, e2⟩ | ⟨g5, cap5, e1, e2, e3⟩
        · have := HX1.out; rw [e2] at this; simp at this
        simp only [Value.slice.injEq] at e1
        obtain ⟨rfl, _, rfl⟩ := e1
        have HR5 := Lib.hid (H.out.kpNo Q.out.kp)
        have hbc5 := HR5.out.bitAt HBB.out
        have hdl : (d : Int) < ((packB (t ++ [false])).length : Int) := by have := (List.getElem?_eq_some_iff.1 HX1.out).1; omega
        cases b with
        | false =>
          go_wp2
          go_roundw
          case rel => exact ⟨k + 1, by go_num, by omega, by rw [HSN.out]; exact Q.out⟩
          case measure => simp [intOf]; omega
        | true =>
          have hxc := Q.out.own.rd.byteAt HX1.out
          rw [Nat.zero_add] at hxc
          have hxf := Q.out.own.free d
          go_wp2
          go_loopw [5, 6] (fun a i wr' => ∃ j : Nat, i = .int .i64 j ∧ j ≤ m ∧ a = .int .u8 ((128 / 2 ^ j : Nat) : Int) ∧ wr' = wr) (fun _ i _ => m - (intOf i).toNat)
          case atStart => exact ⟨0, rfl, by omega, rfl, rfl⟩
          case round =>
            obtain ⟨j, rfl, hj, rfl, rfl⟩ := hrel
            by_cases hjm : j < m
            · have hjI : (j : Int) < (m : Int) := by omega
              have hwj : IntKind.i64.wrap ((j : Int) + 1) = (j : Int) + 1 := IntWalk.i64_in _ (by omega)
              obtain ⟨z, hz⟩ : ∃ z, z = 128 / 2 ^ j := ⟨_, rfl⟩
              obtain ⟨z2, hz2⟩ : ∃ z2, z2 = 128 / 2 ^ (j + 1) := ⟨_, rfl⟩
              have hzz : z2 = z / 2 := by rw [hz, hz2, Nat.pow_succ, Nat.div_div_eq_div_mul]
              have hz128 : z ≤ 128 := by rw [hz]; exact Nat.div_le_self _ _
              rw [← hz]
              have ez1 : (z : Int) / 2 = (z2 : Int) := by omega
              have ez2 : IntKind.u8.wrap (z2 : Int) = (z2 : Int) := IntWalk.u8_in _ (by omega)
              have HZ2 := Lib.hid hz2
              clear hz hz2 hzz hz128 hjm
              go_wp2
              go_roundw
              case rel => exact ⟨j + 1, by go_num, by omega, by rw [HZ2.out], by first | rfl | trivial⟩
              case measure => simp [intOf]; omega
            · obtain rfl : j = m := by omega
              have hjI : ¬ (j : Int) < (j : Int) := by omega
              obtain ⟨P, hP⟩ : ∃ P, P = 128 / 2 ^ j := ⟨_, rfl⟩
              obtain ⟨y, hy⟩ : ∃ y, y = x + P := ⟨_, rfl⟩
              have hy256 : y < 256 := by have := HX2.out; rw [← hP] at this; omega
              have ey1 : (x : Int) + (P : Int) = (y : Int) := by omega
              have ey2 : IntKind.u8.wrap (y : Int) = (y : Int) := IntWalk.u8_in _ (by omega)
              have hset := HX3.out
              rw [← hP, ← hy] at hset
              have HSET := Lib.hid hset
              rw [← hP]
              clear hP hy hset hjm hjI
              go_wp2
              go_roundw
              case rel =>
                have ho := Q.out.own.setByte d y (by omega)
                rw [← HSET.out] at ho
                have hl : (packB (t ++ [false])).length = (packB (t ++ [true])).length := by rw [HSET.out, List.length_set]
                rw [hl] at ho
                refine ⟨k + 1, by go_num, by omega, ?_⟩
                rw [HSN.out, hl]
                exact ⟨ho, fun g hg => Q.out.ge g hg, Q.out.kp.trans' ((Kp.refl (fun k => k = g5) _).setCell (p := ⟨g5, d, none⟩) (fun _ => rfl) _) (fun k hk e => by have := Q.out.ge g5 rfl; have e : k = g5 := e; omega)⟩
              case measure => simp [intOf]; omega
    · obtain rfl : k = l.length := by omega
      have hd0 : ¬ (l.length : Int) < (l.length : Int) := by omega
      go_wp2
      go_ret
      exact ⟨_, rfl, by have := HV.out; rwa [List.take_length] at this⟩
end Go.Proofs.YtfpikgkbccgchaaGreatDoor

namespace Go.Proofs.YtfpikgkbccgchaaGreatDoor
set_option linter.unusedVariables false
set_option linter.unusedSimpArgs false
open Go.RowKit

theorem Kp.ofDrew {S : Nat → Prop} {a b : World} (h : Kp S a.drew b) : Kp S a b := ⟨h.os, h.tape, h.output, h.size, h.block⟩

/-- The step law of append, at a region that draws its order. -/
theorem stp_append {α : Type} {K : Kd α} {P : Program} {t e : TypeId} {bytes : Nat} {w : World} (E : ElT P t e K bytes) {ops : Array Oper} {o : Oper} {a : Act} {K' : Act → World → Prop} {Q : Exit → Act → World → Prop} {Ex : Prop} (hgd : o.guard = none) (s x : Operand)
    (ho : o.op = .call { callee := .builtin .append, args := #[s, x], argTypes := #[t, t] }) {v xv : Value} {l m : List α} (hs : a.eval s = v) (hxv : a.eval x = xv)
    (hown : Own K e w v l) (hx : Rd K w xv m) (h63 : l.length + m.length ≤ maxLen) (hbytes : (l.length + m.length) * bytes ≤ 140737488355328)
    (h : ∀ v' w', Own K e w' v' (l ++ m) → Kp (fun k => v.ownBlock = some k) w w' → (∀ g, v'.ownBlock = some g → v.ownBlock = some g ∨ w.heap.size ≤ g) → K' (a.put o.dst v') w') : if Region.wanted o (yielded ops a.tmps) = true then Oper.wp P o a w K' Q else Ex := by
  have hw : Region.wanted o (yielded ops a.tmps) = true := by simp [Region.wanted, hgd]
  rw [if_pos hw]
  obtain ⟨v', w', hr, h2, h3, h4⟩ := run_append E o.type hown hx h63 hbytes
  unfold Oper.wp execOp
  simp only [ho, resolve, invoke, builtin, Sem.run_bind, Sem.run_pure, Result.andThen_ok, List.map_toArray, List.map_cons, List.map_nil, hs, hxv, hr]
  exact h v' w' h2 h3 h4

/-- The document's reader: p points to it, it has the bits L, stands at n, and has the fault f. -/
structure QdV (w0 : World) (p : Nat) (L : List Bool) (n : Nat) (f : Int) (w : World) (V : Value) : Prop where
  blk : w.heap[p]? = some (.cells #[V, .int .i64 (n : Int), .int .i64 f] 191 (0, 0))
  own : Own QK 4 w V L
  ne : ∀ g, V.ownBlock = some g → g ≠ p
  kp : Kp No w0 w
  po : w0.heap.size ≤ p
  vo : ∀ g, V.ownBlock = some g → w0.heap.size ≤ g
def NewQ (w0 : World) (p : Nat) (L : List Bool) (n : Nat) (f : Int) (w : World) : Prop := ∃ V, QdV w0 p L n f w V

/-- The same reader, that is only read: the slice V is named; since w0 no other block was written. -/
structure AtQ (w0 : World) (p : Nat) (V : Value) (L : List Bool) (n : Nat) (f : Int) (w : World) : Prop where
  blk : w.heap[p]? = some (.cells #[V, .int .i64 (n : Int), .int .i64 f] 191 (0, 0))
  rd : Rd QK w V L
  ne : ∀ g, V.ownBlock = some g → g ≠ p
  kp : Kp (fun k => k = p) w0 w
theorem QdV.at {w0 w : World} {p : Nat} {L : List Bool} {n : Nat} {f : Int} {V : Value} (h : QdV w0 p L n f w V) : AtQ w p V L n f w := ⟨h.blk, h.own.rd, h.ne, Kp.refl _ _⟩
theorem AtQ.kpNo {w0 w w' : World} {p : Nat} {V : Value} {L : List Bool} {n : Nat} {f : Int} (h : AtQ w0 p V L n f w) (hk : Kp No w w') : AtQ w0 p V L n f w' :=
  ⟨hk.blk h.blk (no_no _), h.rd.kpNo hk, h.ne, h.kp.no hk⟩
theorem AtQ.here {w0 w : World} {p : Nat} {V : Value} {L : List Bool} {n : Nat} {f : Int} (h : AtQ w0 p V L n f w) : AtQ w p V L n f w := ⟨h.blk, h.rd, h.ne, Kp.refl _ _⟩
theorem AtQ.far {S : Nat → Prop} {w0 w w' : World} {p : Nat} {V : Value} {L : List Bool} {n : Nat} {f : Int} (h : AtQ w0 p V L n f w) (hk : Kp S w w') (hp : ¬ S p) (hv : ∀ g, V.ownBlock = some g → ¬ S g) : AtQ w' p V L n f w' :=
  ⟨hk.blk h.blk hp, h.rd.kp hk hv, h.ne, Kp.refl _ _⟩
theorem AtQ.old {w0 w : World} {p : Nat} {V : Value} {L : List Bool} {n : Nat} {f : Int} (h : AtQ w0 p V L n f w) (hp : w0.heap.size ≤ p) : Kp No w0 w := h.kp.mono fun k hk e => by omega
theorem AtQ.set1 {w0 w : World} {p : Nat} {V : Value} {L : List Bool} {n m : Nat} {f : Int} (h : AtQ w0 p V L n f w) : AtQ w0 p V L m f (w.setCell ⟨p, 1, none⟩ (.int .i64 (m : Int))) := by
  have hk := (Kp.refl (fun k => k = p) w).setCell (p := ⟨p, 1, none⟩) (fun _ => rfl) (.int .i64 (m : Int))
  exact ⟨(blk_set h.blk 1 _).trans rfl, h.rd.kp hk h.ne, h.ne, h.kp.trans hk⟩
theorem AtQ.set2 {w0 w : World} {p : Nat} {V : Value} {L : List Bool} {n : Nat} {f g : Int} (h : AtQ w0 p V L n f w) : AtQ w0 p V L n g (w.setCell ⟨p, 2, none⟩ (.int .i64 g)) := by
  have hk := (Kp.refl (fun k => k = p) w).setCell (p := ⟨p, 2, none⟩) (fun _ => rfl) (.int .i64 g)
  exact ⟨(blk_set h.blk 2 _).trans rfl, h.rd.kp hk h.ne, h.ne, h.kp.trans hk⟩
end Go.Proofs.YtfpikgkbccgchaaGreatDoor

namespace Go.Proofs.YtfpikgkbccgchaaGreatDoor
set_option linter.unusedVariables false
set_option linter.unusedSimpArgs false
open Go.RowKit

theorem unpackB_snoc (B : List Nat) (k x : Nat) (h : B[k]? = some x) : unpackB (B.take (k + 1)) = unpackB (B.take k) ++ nbits x 8 := by
  rw [List.take_add_one, h]
  simp [unpackB]

theorem QdV.app {w0 w w1 w6 : World} {p : Nat} {L L' : List Bool} {n : Nat} {f : Int} {V V' : Value} (h : QdV w0 p L n f w V) (hk : Kp No w w1) (k1 : Own QK 4 w6 V' L') (k2 : Kp (fun k => V.ownBlock = some k) w1 w6) (k3 : ∀ g, V'.ownBlock = some g → V.ownBlock = some g ∨ w1.heap.size ≤ g) :
    NewQ w0 p L' n f (w6.setCell ⟨p, 0, none⟩ V') := by
  have hb := hk.blk h.blk (no_no _)
  have hb6 := k2.blk hb (fun e => h.ne _ e rfl)
  have hpw := lt_of_block h.blk
  have hs := hk.size
  have hs0 := h.kp.size
  have hne : ∀ g, V'.ownBlock = some g → g ≠ p := fun g hg => by
    rcases k3 g hg with e | e
    · exact h.ne g e
    · omega
  have hks := (Kp.refl (fun k => k = p) w6).setCell (p := ⟨p, 0, none⟩) (fun _ => rfl) V'
  refine ⟨V', (blk_set hb6 0 _).trans rfl, k1.kp hks hne, hne, ((h.kp.no hk).trans' k2 (fun k hk e => by have := h.vo k e; omega)).trans' hks (fun k hk e => by subst e; have := h.po; omega), h.po, fun g hg => ?_⟩
  rcases k3 g hg with e | e
  · exact h.vo g e
  · omega

set_option maxHeartbeats 1000000 in
set_option maxRecDepth 100000 in
theorem rof_any {w : World} {v : Value} {B : List Nat} (h : Rd BK w v B) (hB : B.length ≤ 100000) (hBx : ∀ x ∈ B, x < 256) : Calls Tryz.prog 121 #[v] w fun e w' => ∃ p, e = .returned (.pointer (some ⟨p, 0, none⟩)) ∧ NewQ w p (unpackB B) 0 0 w' := by
  obtain ⟨A, cap, rfl⟩ := h.shape
  have H := Lib.hid h
  have HX := Lib.hid hBx
  clear h hBx
  go_enter Tryz.func121, Tryz.ntmps121
  go_wp2
  go_loopw [4] (fun i wr => ∃ k : Nat, i = .int .i64 k ∧ k ≤ B.length ∧ NewQ w w.heap.size (unpackB (B.take k)) 0 0 wr) (fun i _ => B.length - (intOf i).toNat)
  case atStart => exact ⟨0, rfl, by omega, .slice none 0 0, blk_new w _, Own.nil _ _ _, by simp [Value.ownBlock], (Kp.refl _ _).alloc _, Nat.le_refl _, by simp [Value.ownBlock]⟩
  case round =>
    obtain ⟨k, rfl, hk, hq⟩ := hrel
    by_cases hlt : k < B.length
    · obtain ⟨V, hq⟩ := hq
      obtain ⟨A1, cap1, rfl⟩ := hq.own.rd.shape
      obtain ⟨x, hx⟩ : ∃ x, B[k]? = some x := ⟨_, List.getElem?_eq_getElem hlt⟩
      have hx256 := HX.out x (List.mem_of_getElem? hx)
      have HR := Lib.hid (H.out.kpNo hq.kp)
      rcases H.out with ⟨hv, he⟩ | ⟨g, o, cap', hv, _⟩
      · rw [he] at hlt; simp at hlt
      simp only [Value.slice.injEq] at hv
      obtain ⟨rfl, _, rfl⟩ := hv
      have hxc := HR.out.byteAt hx
      have hgl : g < w.heap.size := World.block_lt_of_cell? w _ (H.out.byteAt hx)
      have hbc := (blk_cell hq.blk 0).trans rfl
      simp only [List.getElem?_toArray, List.getElem?_cons_zero] at hbc
      have HQ := Lib.hid hq
      have HSN := Lib.hid (unpackB_snoc B k x hx)
      have hul := unpackB_len (B.take k)
      have hul2 : (unpackB (B.take k)).length ≤ 800000 := by rw [hul, List.length_take]; omega
      have hltI : (k : Int) < (B.length : Int) := by omega
      have hwk : IntKind.i64.wrap ((k : Int) + 1) = (k : Int) + 1 := IntWalk.i64_in _ (by omega)
      have hwx : IntKind.u64.wrap (x : Int) = (x : Int) := IntWalk.u64_in _ (by omega)
      generalize unpackB (B.take k) = t at *
      have hl5 : (nbits x 8).length ≤ 8 := by rw [nbits_len]; omega
      have b1 : t.length + (nbits x 8).length ≤ maxLen := by unfold maxLen; omega
      have b2 : (t.length + (nbits x 8).length) * 1 ≤ 140737488355328 := by omega
      have RB := Lib.hid (fun w => rbits_any w x 8 (by omega) (by decide) (x : Int) 8 rfl rfl)
      clear hx hq hlt hul
      go_wp2
      go_region_law (first
          | (refine stp_append elQ rfl (.tmp 17) (.tmp 23) rfl rfl rfl (l := t) (m := nbits x 8) (HQ.out.own.kpNo K5.out) HV5.out.own.rd b1 b2 ?_; intro v6 w6 m1 m2 m3; obtain ⟨A6, cap6, rfl⟩ := m1.rd.shape; have c3 := m2.cellS c1 (fun e => HQ.out.ne _ e rfl); have hf6 := blk_free (m2.blk (K5.out.blk HQ.out.blk (no_no _)) (fun e => HQ.out.ne _ e rfl)) 0; have HF := Lib.hid (HQ.out.app K5.out m1 m2 m3); clear m1 m2 m3)
          | (go_simp; go_at_call 94; refine (RB.out wr.drew).mono ?_; rintro e w5 ⟨v5, rfl, hv5⟩; obtain ⟨A5, cap5, rfl⟩ := hv5.own.rd.shape; have k5 := hv5.kp.ofDrew; have c1 := k5.cellS hbc (no_no _); have c2 := k5.cellS hxc (no_no _); have K5 := Lib.hid k5; have HV5 := Lib.hid hv5; clear hv5 k5))
      all_goals
        go_wp2
        go_roundw
        case rel => exact ⟨k + 1, by go_num, by omega, by rw [HSN.out]; have q := HF.out; rw [List.length_append] at q; exact q⟩
        case measure => simp [intOf]; omega
    · obtain rfl : k = B.length := by omega
      have HQ := Lib.hid hq
      clear hq
      have hd0 : ¬ (B.length : Int) < (B.length : Int) := by omega
      go_wp2
      go_ret
      exact ⟨_, rfl, by have := HQ.out; rwa [List.take_length] at this⟩
end Go.Proofs.YtfpikgkbccgchaaGreatDoor

namespace Go.Proofs.YtfpikgkbccgchaaGreatDoor
set_option linter.unusedVariables false
set_option linter.unusedSimpArgs false
open Go.RowKit

theorem AtQ.parts {w0 w : World} {p : Nat} {V : Value} {L : List Bool} {n : Nat} {f : Int} (h : AtQ w0 p V L n f w) :
    ∃ A cap, w.cell? ⟨p, 0, none⟩ = some (.slice A L.length cap) ∧ w.cell? ⟨p, 1, none⟩ = some (.int .i64 (n : Int)) ∧ w.cell? ⟨p, 2, none⟩ = some (.int .i64 f) ∧ w.frozen? ⟨p, 1, none⟩ = false ∧ w.frozen? ⟨p, 2, none⟩ = false ∧
      (∀ b i, L[i]? = some b → ∃ g o, A = some ⟨g, o, none⟩ ∧ w.cell? ⟨g, o + i, none⟩ = some (.bool b)) := by
  obtain ⟨h1, h2, h3, h4⟩ := h
  rcases h2 with ⟨⟨A, c, rfl⟩, rfl⟩ | ⟨g, o, cap, rfl, c1, c2, c3⟩
  · exact ⟨A, c, (blk_cell h1 0).trans rfl, (blk_cell h1 1).trans rfl, (blk_cell h1 2).trans rfl, blk_free h1 1, blk_free h1 2, fun b i hi => by simp at hi⟩
  · have hr : Rd QK w (.slice (some ⟨g, o, none⟩) L.length cap) L := .inr ⟨g, o, cap, rfl, c1, c2, c3⟩
    exact ⟨some ⟨g, o, none⟩, cap, (blk_cell h1 0).trans rfl, (blk_cell h1 1).trans rfl, (blk_cell h1 2).trans rfl, blk_free h1 1, blk_free h1 2, fun b i hi => ⟨g, o, rfl, hr.bitAt hi⟩⟩

theorem rget_zero {L : List Bool} {n : Nat} {f : Int} {many : Nat} (hf : f ≠ 0) : rgetV L n f many = 0 ∧ rgetN L n f many = n ∧ rgetF L n f many = f := by simp [rgetV, rgetN, rgetF, hf]
theorem rget_short {L : List Bool} {n many : Nat} (hs : ¬ n + many ≤ L.length) : rgetV L n 0 many = 0 ∧ rgetN L n 0 many = n ∧ rgetF L n 0 many = 10 := by simp [rgetV, rgetN, rgetF, hs]
theorem rget_full {L : List Bool} {n many : Nat} (hs : n + many ≤ L.length) : rgetV L n 0 many = bval ((L.drop n).take many) ∧ rgetN L n 0 many = n + many ∧ rgetF L n 0 many = 0 := by simp [rgetV, rgetN, rgetF, hs]

set_option maxRecDepth 100000 in
theorem qget_any {w0 w : World} {p : Nat} {V : Value} {L : List Bool} {n : Nat} {f : Int} (h : AtQ w0 p V L n f w) (hL : L.length ≤ 8000000) (hn : n ≤ L.length) (many : Nat) (hm : many ≤ 64) (y : Int) (hy : y = many) :
    Calls Tryz.prog 122 #[.pointer (some ⟨p, 0, none⟩), .int .i64 y] w fun e w' => e = .returned (.int .u64 (rgetV L n f many : Int)) ∧ AtQ w0 p V L (rgetN L n f many) (rgetF L n f many) w' := by
  subst hy
  obtain ⟨A, cap, h1, h2, h3, h4, h5, h6⟩ := h.parts
  have H := Lib.hid h
  have n1 : ¬ (many : Int) < 0 := by omega
  have n2 : ¬ (64 : Int) < (many : Int) := by omega
  have e1 : IntKind.i64.wrap ((L.length : Int) - (n : Int)) = (L.length : Int) - (n : Int) := IntWalk.i64_in _ (by omega)
  clear h
  by_cases hf : f = 0
  · subst hf
    by_cases hs : n + many ≤ L.length
    · obtain ⟨hV, hN, hF⟩ := rget_full hs
      rw [hV, hN, hF]
      have n3 : decide ((L.length : Int) - (n : Int) < (many : Int)) = false := by simp; omega
      have H6 := Lib.hid h6; have HS := Lib.hid hs
      clear hV hN hF h6 hs
      go_enter Tryz.func122, Tryz.ntmps122
      go_wp2
      go_quiet (fail)
      go_wp2
      go_loopw [5, 6] (fun v i wr => ∃ k : Nat, i = .int .i64 k ∧ k ≤ many ∧ v = .int .u64 (bval ((L.drop n).take k) : Int) ∧ ∃ m, wr = w.drewN m) (fun _ i _ => many - (intOf i).toNat)
      case atStart => exact ⟨0, rfl, by omega, rfl, nq, rfl⟩
      case round =>
        obtain ⟨k, rfl, hk, rfl, m, rfl⟩ := hrel
        by_cases hlt : k < many
        · obtain ⟨b, hb⟩ : ∃ b, L[n + k]? = some b := ⟨_, List.getElem?_eq_getElem (by have := HS.out; omega)⟩
          have hsn : (L.drop n).take (k + 1) = (L.drop n).take k ++ [b] := by
            rw [List.take_add_one, List.getElem?_drop, hb]; rfl
          have hbl := bval_lt ((L.drop n).take k)
          have hlen : ((L.drop n).take k).length ≤ 63 := by rw [List.length_take]; omega
          have h63 : 2 ^ ((L.drop n).take k).length ≤ 2 ^ 63 := Nat.pow_le_pow_right (by decide) hlen
          have hsv := bval_snoc ((L.drop n).take k) b
          rw [← hsn] at hsv
          obtain ⟨x, hx⟩ : ∃ x, x = bval ((L.drop n).take k) := ⟨_, rfl⟩
          rw [← hx] at hsv hbl ⊢
          obtain ⟨g, o, rfl, hc⟩ := H6.out b (n + k) hb
          obtain ⟨t, ht⟩ : ∃ t, t = n + k := ⟨_, rfl⟩
          obtain ⟨x2, hx2⟩ : ∃ x2, x2 = x * 2 := ⟨_, rfl⟩
          rw [← ht] at hc
          have e2 : (n : Int) + (k : Int) = (t : Int) := by omega
          have e3 : IntKind.i64.wrap (t : Int) = (t : Int) := IntWalk.i64_in _ (by have := HS.out; omega)
          have e4 : (x : Int) * 2 = (x2 : Int) := by omega
          have e5 : IntKind.u64.wrap (x2 : Int) = (x2 : Int) := IntWalk.u64_in _ (by omega)
          have e6 : IntKind.u64.wrap ((x2 : Int) + 1) = (x2 : Int) + 1 := IntWalk.u64_in _ (by omega)
          have e7 : IntKind.i64.wrap ((k : Int) + 1) = (k : Int) + 1 := IntWalk.i64_in _ (by omega)
          have e8 : (t : Int) < (L.length : Int) := by have := HS.out; omega
          have hltI : (k : Int) < (many : Int) := by omega
          have HSV := Lib.hid hsv; have HX2 := Lib.hid hx2
          clear ht hx2 hx hsn hsv hb hbl hlen h63 hlt
          go_wp2
          go_quiet (fail)
          cases b with
          | false =>
            go_wp2
            go_roundw
            case rel => exact ⟨k + 1, by go_num, by omega, by rw [HSV.out, HX2.out]; simp; omega, _, rfl⟩
            case measure => simp [intOf]; omega
          | true =>
            go_wp2
            go_roundw
            case rel => exact ⟨k + 1, by go_num, by omega, by rw [HSV.out, HX2.out]; simp; omega, _, rfl⟩
            case measure => simp [intOf]; omega
        · obtain rfl : k = many := by omega
          have e2 : IntKind.i64.wrap ((n : Int) + (k : Int)) = ((n + k : Nat) : Int) := by rw [IntWalk.i64_in _ (by have := HS.out; omega)]; omega
          have hd0 : ¬ (k : Int) < (k : Int) := by omega
          have HD := Lib.hid ((H.out.kpNo ((Kp.refl _ _).drewN m)).set1 (m := n + k))
          go_wp2
          go_ret
          exact ⟨rfl, HD.out⟩
    · obtain ⟨hV, hN, hF⟩ := rget_short hs
      rw [hV, hN, hF]
      have n3 : decide ((L.length : Int) - (n : Int) < (many : Int)) = true := by simp; omega
      clear hV hN hF h6 hs
      go_enter Tryz.func122, Tryz.ntmps122
      go_wp2
      go_quiet (fail)
      go_wp2
      go_ret
      exact ⟨rfl, (H.out.kpNo ((Kp.refl _ _).drewN _)).set2⟩
  · obtain ⟨hV, hN, hF⟩ := rget_zero (L := L) (n := n) (many := many) hf
    rw [hV, hN, hF]
    have hfb : (f != 0) = true := by simpa using hf
    have hfc : (f == 0) = false := by simpa using hf
    clear hV hN hF h6 hf
    go_enter Tryz.func122, Tryz.ntmps122
    go_wp2
    go_quiet (fail)
    go_wp2
    go_ret
    exact ⟨rfl, H.out.kpNo ((Kp.refl _ _).drewN _)⟩
end Go.Proofs.YtfpikgkbccgchaaGreatDoor

namespace Go.Proofs.YtfpikgkbccgchaaGreatDoor
set_option linter.unusedVariables false
set_option linter.unusedSimpArgs false
open Go.RowKit

theorem rc_long {L : List Bool} {n k : Nat} (hz : zerosL (L.drop n) = k) (h : 63 < k) : ¬ rcOk L n 0 ∧ rcN L n 0 = n ∧ rcF L n 0 = 4 := by
  have hok : ¬ rcOk L n 0 := fun h => by have := h.2.1; omega
  exact ⟨hok, by simp [rcN, hok], by simp [rcF, hz, h]⟩
theorem rc_short {L : List Bool} {n k : Nat} (hz : zerosL (L.drop n) = k) (h : ¬ 63 < k) (h2 : ¬ n + (2 * k + 1) ≤ L.length) : ¬ rcOk L n 0 ∧ rcN L n 0 = n ∧ rcF L n 0 = 10 := by
  have hok : ¬ rcOk L n 0 := fun h => by have := h.2.2; rw [hz] at this; omega
  exact ⟨hok, by simp [rcN, hok], by simp [rcF, hz, h, h2]⟩
theorem rc_full {L : List Bool} {n k : Nat} (hz : zerosL (L.drop n) = k) (h : ¬ 63 < k) (h2 : n + (2 * k + 1) ≤ L.length) (hb : L[n + k]? = some true) :
    rcOk L n 0 ∧ rcV L n 0 = rgetV L (n + k) 0 (k + 1) ∧ rcN L n 0 = n + k + (k + 1) ∧ rcF L n 0 = 0 ∧ 1 ≤ rgetV L (n + k) 0 (k + 1) ∧ rgetV L (n + k) 0 (k + 1) < 18446744073709551616 := by
  have hok : rcOk L n 0 := ⟨rfl, by omega, by rw [hz]; exact h2⟩
  have hg1 : n + k + (k + 1) ≤ L.length := by omega
  have hv : rgetV L (n + k) 0 (k + 1) = bval ((L.drop (n + k)).take (k + 1)) := by simp [rgetV, hg1]
  refine ⟨hok, by simp [rcV, rgetV, hok, hg1, hz], by simp [rcN, hok, hz]; omega, by simp [rcF, hz, h, h2], ?_, ?_⟩
  · have hd : L.drop (n + k) = true :: L.drop (n + k + 1) := by
      have hl := (List.getElem?_eq_some_iff.1 hb).1
      rw [List.drop_eq_getElem_cons hl, (List.getElem?_eq_some_iff.1 hb).2]
    rw [hv, hd, List.take_succ_cons, bval_cons]
    have := Nat.two_pow_pos ((L.drop (n + k + 1)).take k).length
    simp only [Bool.toNat_true]; omega
  · rw [hv]
    have h1 := bval_lt ((L.drop (n + k)).take (k + 1))
    have h2 : ((L.drop (n + k)).take (k + 1)).length ≤ 64 := by rw [List.length_take]; omega
    have h3 : 2 ^ ((L.drop (n + k)).take (k + 1)).length ≤ 2 ^ 64 := Nat.pow_le_pow_right (by decide) h2
    omega

def RcPost (w0 : World) (p : Nat) (V : Value) (L : List Bool) (n : Nat) (f : Int) (e : Ending) (w' : World) : Prop := e = .returned (.int .u64 (if rcOk L n f then (rcV L n f : Int) - 1 else 0)) ∧ AtQ w0 p V L (rcN L n f) (rcF L n f) w'

set_option maxRecDepth 100000 in
theorem qcount_any {w0 w : World} {p : Nat} {V : Value} {L : List Bool} {n : Nat} {f : Int} (h : AtQ w0 p V L n f w) (hL : L.length ≤ 8000000) (hn : n ≤ L.length) :
    Calls Tryz.prog 123 #[.pointer (some ⟨p, 0, none⟩)] w (RcPost w0 p V L n f) := by
  obtain ⟨A, cap, h1, h2, h3, h4, h5, h6⟩ := h.parts
  have H := Lib.hid h
  clear h
  by_cases hf : f = 0
  · subst hf
    have H6 := Lib.hid h6; have HN := Lib.hid hn
    obtain ⟨lf, hlf⟩ : ∃ lf, n + lf = L.length := ⟨L.length - n, by omega⟩
    have HLF := Lib.hid hlf
    clear h6 hn hlf
    go_enter Tryz.func123, Tryz.ntmps123
    go_wp2
    go_loopw [4] (fun i wr => ∃ k : Nat, i = .int .i64 k ∧ k ≤ lf ∧ (∀ j, j < k → (L.drop n)[j]? = some false) ∧ ∃ m, wr = w.drewN m) (fun i _ => lf - (intOf i).toNat)
    case atStart => exact ⟨0, rfl, by omega, by omega, 0, rfl⟩
    case round =>
      obtain ⟨k, rfl, hk, hz, m, rfl⟩ := hrel
      obtain ⟨t, ht⟩ : ∃ t, t = n + k := ⟨_, rfl⟩
      have e2 : (n : Int) + (k : Int) = (t : Int) := by omega
      have e3 : IntKind.i64.wrap (t : Int) = (t : Int) := IntWalk.i64_in _ (by have := HLF.out; omega)
      have e7 : IntKind.i64.wrap ((k : Int) + 1) = (k : Int) + 1 := IntWalk.i64_in _ (by have := HLF.out; omega)
      have HT := Lib.hid ht
      have key : ∀ b, L[t]? = some b ∨ t = L.length → True := fun _ _ => trivial
      clear key
      by_cases hgo : L[t]? = some false
      · have hlt : t < L.length := (List.getElem?_eq_some_iff.1 hgo).1
        obtain ⟨g, o, rfl, hc⟩ := H6.out false t hgo
        have e8 : (t : Int) < (L.length : Int) := by omega
        have hkl : k < lf := by have := HLF.out; omega
        have HZ := Lib.hid hz; have HG := Lib.hid hgo
        clear hz hgo ht hlt
        go_wp2
        go_quiet (fail)
        go_wp2
        go_roundw
        case rel =>
          refine ⟨k + 1, by go_num, by omega, fun j hj => ?_, _, rfl⟩
          by_cases hjk : j = k
          · subst hjk; rw [List.getElem?_drop, ← HT.out]; exact HG.out
          · exact HZ.out j (by omega)
        case measure => simp [intOf]; omega
      · have hzk : zerosL (L.drop n) = k := zerosL_eq _ k (by have := HLF.out; rw [List.length_drop]; omega) hz (by
          rw [List.getElem?_drop, ← ht]
          cases hb : L[t]? with
          | none => exact .inl rfl
          | some b => cases b with
            | false => exact absurd hb hgo
            | true => exact .inr rfl)
        have HW := Lib.hid (fun j => H.out.kpNo ((Kp.refl _ w).drewN j))
        have HZK := Lib.hid hzk
        have htL : t ≤ L.length := by have := HLF.out; omega
        have HTL := Lib.hid htL
        rcases Nat.lt_or_ge t L.length with hlt | hge
        · have hbt : L[t]? = some true := by
            cases hb : L[t] with
            | false => exact absurd (by rw [List.getElem?_eq_getElem hlt, hb]) hgo
            | true => rw [List.getElem?_eq_getElem hlt, hb]
          obtain ⟨g, o, rfl, hc⟩ := H6.out true t hbt
          have e8 : (t : Int) < (L.length : Int) := by omega
          have HBT := Lib.hid hbt
          clear hz hgo hzk hbt ht hlt htL
          by_cases c1 : 63 < k
          · obtain ⟨r1, r2, r3⟩ := rc_long HZK.out c1
            have R1 := Lib.hid r1; have R2 := Lib.hid r2; have R3 := Lib.hid r3
            have c1I : (63 : Int) < (k : Int) := by omega
            clear r1 r2 r3
            go_wp2
            go_quiet (fail)
            go_wp2
            go_ret
            exact ⟨by rw [if_neg R1.out]; rfl, by rw [R2.out, R3.out]; exact (HW.out _).set2⟩
          · have c1I : ¬ (63 : Int) < (k : Int) := by omega
            have HP := Lib.hid (fun j => (HW.out j).set1 (m := t))
            have e9 : k + 1 ≤ 64 := by omega
            by_cases c2 : n + (2 * k + 1) ≤ L.length
            · obtain ⟨r1, r2, r3, r4, r5, r6⟩ := rc_full HZK.out c1 c2 (by rw [← HT.out]; exact HBT.out)
              obtain ⟨g1, g2, g3⟩ := rget_full (L := L) (n := t) (many := k + 1) (by have := HT.out; omega)
              have R1 := Lib.hid r1; have R2 := Lib.hid r2; have R3 := Lib.hid r3; have R4 := Lib.hid r4; have G2 := Lib.hid g2; have G3 := Lib.hid g3
              rw [← HT.out] at r5 r6
              obtain ⟨r, hr⟩ : ∃ r, rgetV L t 0 (k + 1) = r := ⟨_, rfl⟩
              rw [hr] at r5 r6
              have HR := Lib.hid hr
              have e6 : IntKind.u64.wrap ((r : Int) - 1) = (r : Int) - 1 := IntWalk.u64_in _ (by omega)
              clear r1 r2 r3 r4 g1 g2 g3 hr r5 r6 c2
              go_wp2
              go_quiet (fail)
              go_wp2_with fail
              refine (qget_any (HP.out _) hL HTL.out (k + 1) e9 ((k : Int) + 1) (by omega)).mono ?_
              rintro e w6 ⟨rfl, a6⟩
              rw [G2.out, G3.out] at a6
              rw [HR.out]
              obtain ⟨A6, cap6, b1, b2, b3, b4, b5, b6⟩ := a6.parts
              have A6' := Lib.hid a6
              clear a6 b6
              go_wp2
              go_ret
              exact ⟨by rw [if_pos R1.out, R2.out, ← HT.out, HR.out]; rfl, by rw [R3.out, R4.out, ← HT.out]; exact A6'.out⟩
            · obtain ⟨r1, r2, r3⟩ := rc_short HZK.out c1 c2
              obtain ⟨g1, g2, g3⟩ := rget_short (L := L) (n := t) (many := k + 1) (by have := HT.out; omega)
              have R1 := Lib.hid r1; have R2 := Lib.hid r2; have R3 := Lib.hid r3; have G2 := Lib.hid g2; have G3 := Lib.hid g3
              clear r1 r2 r3 g1 g2 g3 c2
              go_wp2
              go_quiet (fail)
              go_wp2_with fail
              refine (qget_any (HP.out _) hL HTL.out (k + 1) e9 ((k : Int) + 1) (by omega)).mono ?_
              rintro e w6 ⟨rfl, a6⟩
              rw [G2.out, G3.out] at a6
              obtain ⟨A6, cap6, b1, b2, b3, b4, b5, b6⟩ := a6.parts
              have A6' := Lib.hid a6
              clear a6 b6
              go_wp2
              go_ret
              exact ⟨by rw [if_neg R1.out]; rfl, by rw [R2.out, R3.out]; exact A6'.out.set1⟩
        · obtain rfl : t = L.length := by omega
          have e8 : decide ((L.length : Int) < (L.length : Int)) = false := by simp
          clear hz hgo hzk ht hge htL
          by_cases c1 : 63 < k
          · obtain ⟨r1, r2, r3⟩ := rc_long HZK.out c1
            have R1 := Lib.hid r1; have R2 := Lib.hid r2; have R3 := Lib.hid r3
            have c1I : (63 : Int) < (k : Int) := by omega
            clear r1 r2 r3
            go_wp2
            go_quiet (fail)
            go_wp2
            go_ret
            exact ⟨by rw [if_neg R1.out]; rfl, by rw [R2.out, R3.out]; exact (HW.out _).set2⟩
          · have c1I : ¬ (63 : Int) < (k : Int) := by omega
            have HP := Lib.hid (fun j => (HW.out j).set1 (m := L.length))
            have e9 : k + 1 ≤ 64 := by omega
            obtain ⟨r1, r2, r3⟩ := rc_short HZK.out c1 (by have := HT.out; omega)
            obtain ⟨g1, g2, g3⟩ := rget_short (L := L) (n := L.length) (many := k + 1) (by omega)
            have R1 := Lib.hid r1; have R2 := Lib.hid r2; have R3 := Lib.hid r3; have G2 := Lib.hid g2; have G3 := Lib.hid g3
            clear r1 r2 r3 g1 g2 g3
            go_wp2
            go_quiet (fail)
            go_wp2_with fail
            refine (qget_any (HP.out _) hL HTL.out (k + 1) e9 ((k : Int) + 1) (by omega)).mono ?_
            rintro e w6 ⟨rfl, a6⟩
            rw [G2.out, G3.out] at a6
            obtain ⟨A6, cap6, b1, b2, b3, b4, b5, b6⟩ := a6.parts
            have A6' := Lib.hid a6
            clear a6 b6
            go_wp2
            go_ret
            exact ⟨by rw [if_neg R1.out]; rfl, by rw [R2.out, R3.out]; exact A6'.out.set1⟩
  · have hok : ¬ rcOk L n f := fun h => hf h.1
    have hN : rcN L n f = n := by simp [rcN, hok]
    have hF : rcF L n f = f := by simp [rcF, hf]
    have HP : Hid (∀ w', AtQ w0 p V L n f w' → RcPost w0 p V L n f (.returned (.int .u64 0)) w') := fun w' hw => ⟨by rw [if_neg hok], by rw [hN, hF]; exact hw⟩
    have hfb : (f != 0) = true := by simpa using hf
    clear hok hN hF h6 hf
    go_enter Tryz.func123, Tryz.ntmps123
    go_wp2
    go_ret
    exact HP.out _ H.out
end Go.Proofs.YtfpikgkbccgchaaGreatDoor

namespace Go.Proofs.YtfpikgkbccgchaaGreatDoor
set_option linter.unusedVariables false
set_option linter.unusedSimpArgs false
open Go.RowKit

set_option maxRecDepth 100000 in
theorem qend_any {w0 w : World} {p : Nat} {V : Value} {L : List Bool} {n : Nat} {f : Int} (h : AtQ w0 p V L n f w) (hL : L.length ≤ 8000000) (hn : n ≤ L.length) :
    Calls Tryz.prog 124 #[.pointer (some ⟨p, 0, none⟩)] w fun e w' => e = .returned (.int .i64 (rendV L n f)) ∧ Kp No w w' := by
  obtain ⟨A, cap, h1, h2, h3, h4, h5, h6⟩ := h.parts
  have e1 : IntKind.i64.wrap ((L.length : Int) - (n : Int)) = (L.length : Int) - (n : Int) := IntWalk.i64_in _ (by omega)
  clear h
  by_cases hf : f = 0
  · subst hf
    have H6 := Lib.hid h6; have HN := Lib.hid hn
    clear h6
    by_cases c1 : 7 < L.length - n
    · have hv : rendV L n 0 = 11 := by simp [rendV]; omega
      rw [hv]
      have c1I : decide ((7 : Int) < (L.length : Int) - (n : Int)) = true := by simp; omega
      clear hv hn c1
      go_enter Tryz.func124, Tryz.ntmps124
      go_wp2
      go_quiet (fail)
      go_wp2
      go_ret
      exact ⟨rfl, (Kp.refl _ _).drewN _⟩
    · have c1I : decide ((7 : Int) < (L.length : Int) - (n : Int)) = false := by simp; omega
      have C1 := Lib.hid c1
      clear hn c1
      go_enter Tryz.func124, Tryz.ntmps124
      go_wp2
      go_quiet (fail)
      go_wp2
      go_loopw [3] (fun i wr => ∃ k : Nat, i = .int .i64 k ∧ n ≤ k ∧ k ≤ L.length ∧ (∀ j, n ≤ j → j < k → L[j]? = some false) ∧ ∃ m, wr = w.drewN m) (fun i _ => L.length - (intOf i).toNat)
      case atStart => exact ⟨n, rfl, by omega, HN.out, by omega, _, rfl⟩
      case round =>
        obtain ⟨k, rfl, hk0, hk, hz, m, rfl⟩ := hrel
        have e7 : IntKind.i64.wrap ((k : Int) + 1) = (k : Int) + 1 := IntWalk.i64_in _ (by omega)
        by_cases hlt : k < L.length
        · obtain ⟨b, hb⟩ : ∃ b, L[k]? = some b := ⟨_, List.getElem?_eq_getElem hlt⟩
          obtain ⟨g, o, rfl, hc⟩ := H6.out b k hb
          have hltI : (k : Int) < (L.length : Int) := by omega
          have HZ := Lib.hid hz; have HB := Lib.hid hb
          clear hz hb hlt
          cases b with
          | false =>
            go_wp2
            go_roundw
            case rel =>
              refine ⟨k + 1, by go_num, by omega, by omega, fun j h1 hj => ?_, _, rfl⟩
              by_cases hjk : j = k
              · subst hjk; exact HB.out
              · exact HZ.out j h1 (by omega)
            case measure => simp [intOf]; omega
          | true =>
            have hv : rendV L n 0 = 11 := by
              have hm : true ∈ L.drop n := List.mem_of_getElem? (i := k - n) (by rw [List.getElem?_drop, show n + (k - n) = k by omega]; exact HB.out)
              simp [rendV, hm]
            have HV := Lib.hid hv
            clear hv
            go_wp2
            go_ret
            exact ⟨by rw [HV.out]; rfl, (Kp.refl _ _).drewN _⟩
        · obtain rfl : k = L.length := by omega
          have hv : rendV L n 0 = 0 := by
            have hm : true ∉ L.drop n := fun hm => by
              obtain ⟨i, hi⟩ := List.getElem?_of_mem hm
              rw [List.getElem?_drop] at hi
              have h2 := hz (n + i) (by omega) (List.getElem?_eq_some_iff.1 hi).1
              rw [h2] at hi; simp at hi
            have := C1.out
            simp [rendV, hm]; omega
          have HV := Lib.hid hv
          have hd0 : ¬ (L.length : Int) < (L.length : Int) := by omega
          clear hv hz hlt
          go_wp2
          go_ret
          exact ⟨by rw [HV.out]; rfl, (Kp.refl _ _).drewN _⟩
  · have hv : rendV L n f = f := by simp [rendV, hf]
    rw [hv]
    have hfb : (f != 0) = true := by simpa using hf
    clear hv h6 hf
    go_enter Tryz.func124, Tryz.ntmps124
    go_wp2
    go_ret
    exact ⟨rfl, Kp.refl _ _⟩
end Go.Proofs.YtfpikgkbccgchaaGreatDoor

namespace Go.Proofs.YtfpikgkbccgchaaGreatDoor
set_option linter.unusedVariables false
set_option linter.unusedSimpArgs false
open Go.RowKit

theorem bits_xor_u8_nat (a b : Nat) (ha : a < 256) (hb : b < 256) : bits .xor .u8 (a : Int) (b : Int) = ((a ^^^ b : Nat) : Int) := by
  have hx : a ^^^ b < 2 ^ 8 := Nat.xor_lt_two_pow (by omega) (by omega)
  have h1 : (BitVec.ofInt 8 (a : Int)).toNat = a := by
    rw [BitVec.ofInt_natCast, BitVec.toNat_ofNat]; exact Nat.mod_eq_of_lt (by omega)
  have h2 : (BitVec.ofInt 8 (b : Int)).toNat = b := by
    rw [BitVec.ofInt_natCast, BitVec.toNat_ofNat]; exact Nat.mod_eq_of_lt (by omega)
  show IntKind.u8.wrap ((BitVec.ofInt 8 (a : Int) ^^^ BitVec.ofInt 8 (b : Int)).toNat : Int) = _
  rw [BitVec.toNat_xor, h1, h2]
  show (((a ^^^ b : Nat) : Int) % 256) = _
  omega
theorem bits_xor_u16_nat (a b : Nat) (ha : a < 65536) (hb : b < 65536) : bits .xor .u16 (a : Int) (b : Int) = ((a ^^^ b : Nat) : Int) := by
  have hx : a ^^^ b < 2 ^ 16 := Nat.xor_lt_two_pow (by omega) (by omega)
  have h1 : (BitVec.ofInt 16 (a : Int)).toNat = a := by
    rw [BitVec.ofInt_natCast, BitVec.toNat_ofNat]; exact Nat.mod_eq_of_lt (by omega)
  have h2 : (BitVec.ofInt 16 (b : Int)).toNat = b := by
    rw [BitVec.ofInt_natCast, BitVec.toNat_ofNat]; exact Nat.mod_eq_of_lt (by omega)
  show IntKind.u16.wrap ((BitVec.ofInt 16 (a : Int) ^^^ BitVec.ofInt 16 (b : Int)).toNat : Int) = _
  rw [BitVec.toNat_xor, h1, h2]
  show (((a ^^^ b : Nat) : Int) % 65536) = _
  omega

theorem u16_mul (x m : Nat) : IntKind.u16.wrap ((x : Int) * (m : Int)) = ((x * m % 65536 : Nat) : Int) := by
  show ((x : Int) * (m : Int)) % 65536 = _
  rw [← Int.natCast_mul]; omega
theorem crc_walk (r c : Nat) (hr : r < 65536) (hc : c < 256) :
    bits .xor .u16 (bits .xor .u16 (bits .xor .u16 (IntKind.u16.wrap ((r : Int) * 256)) (IntKind.u16.wrap (IntKind.u16.wrap (bits .xor .u8 (bits .xor .u8 ((r : Int) / 256) (c : Int)) (bits .xor .u8 ((r : Int) / 256) (c : Int) / 16)) * 4096)))
      (IntKind.u16.wrap (IntKind.u16.wrap (bits .xor .u8 (bits .xor .u8 ((r : Int) / 256) (c : Int)) (bits .xor .u8 ((r : Int) / 256) (c : Int) / 16)) * 32)))
      (IntKind.u16.wrap (bits .xor .u8 (bits .xor .u8 ((r : Int) / 256) (c : Int)) (bits .xor .u8 ((r : Int) / 256) (c : Int) / 16))) = (crcStep r c : Int) := by
  rw [crcStep_eq r c hr hc]
  have hy : r / 256 ^^^ c < 256 := Nat.xor_lt_two_pow (n := 8) (by omega) (by omega)
  have a1 : (r : Int) / 256 = ((r / 256 : Nat) : Int) := by omega
  rw [a1, bits_xor_u8_nat (r / 256) c (by omega) hc]
  generalize r / 256 ^^^ c = y at *
  have a2 : (y : Int) / 16 = ((y / 16 : Nat) : Int) := by omega
  have hx : y ^^^ y / 16 < 256 := Nat.xor_lt_two_pow (n := 8) (by omega) (by omega)
  rw [a2, bits_xor_u8_nat y (y / 16) hy (by omega)]
  generalize y ^^^ y / 16 = x at *
  have a3 : IntKind.u16.wrap (x : Int) = (x : Int) := by show (x : Int) % 65536 = _; omega
  have a4 : IntKind.u16.wrap ((r : Int) * 256) = ((r * 256 % 65536 : Nat) : Int) := u16_mul r 256
  have a5 : IntKind.u16.wrap ((x : Int) * 4096) = ((x * 4096 % 65536 : Nat) : Int) := u16_mul x 4096
  have a6 : IntKind.u16.wrap ((x : Int) * 32) = ((x * 32 % 65536 : Nat) : Int) := u16_mul x 32
  have b1 : r * 256 % 65536 < 65536 := Nat.mod_lt _ (by decide)
  have b2 : x * 4096 % 65536 < 65536 := Nat.mod_lt _ (by decide)
  have b3 : x * 32 % 65536 < 65536 := Nat.mod_lt _ (by decide)
  rw [a3, a4, a5, a6, bits_xor_u16_nat _ _ b1 b2]
  have b4 : r * 256 % 65536 ^^^ x * 4096 % 65536 < 65536 := Nat.xor_lt_two_pow (n := 16) b1 b2
  rw [bits_xor_u16_nat _ _ b4 b3]
  have b5 : (r * 256 % 65536 ^^^ x * 4096 % 65536) ^^^ x * 32 % 65536 < 65536 := Nat.xor_lt_two_pow (n := 16) b4 b3
  rw [bits_xor_u16_nat _ _ b5 (by omega)]

set_option maxRecDepth 100000 in
theorem sum_any {w : World} {v : Value} {B : List Nat} (h : Rd BK w v B) (hB : B.length ≤ 1000000) (hBx : ∀ x ∈ B, x < 256) : Calls Tryz.prog 145 #[v] w fun e w' => e = .returned (.int .u16 (crc 65535 B : Int)) ∧ w = w' := by
  obtain ⟨A, cap, rfl⟩ := h.shape
  have H := Lib.hid h; have HX := Lib.hid hBx
  clear h hBx
  go_enter Tryz.func145, Tryz.ntmps145
  go_wp2
  go_loop [3, 9] (fun r i => ∃ k : Nat, i = .int .i64 k ∧ k ≤ B.length ∧ r = .int .u16 (crc 65535 (B.take k) : Int)) (fun _ i => B.length - (intOf i).toNat)
  case atStart => exact ⟨0, rfl, by omega, rfl⟩
  case round =>
    obtain ⟨k, rfl, hk, rfl⟩ := hrel
    by_cases hlt : k < B.length
    · obtain ⟨c, hc⟩ : ∃ c, B[k]? = some c := ⟨_, List.getElem?_eq_getElem hlt⟩
      have hc256 := HX.out c (List.mem_of_getElem? hc)
      rcases H.out with ⟨hv, he⟩ | ⟨g, o, cap', hv, _⟩
      · rw [he] at hlt; simp at hlt
      simp only [Value.slice.injEq] at hv
      obtain ⟨rfl, _, rfl⟩ := hv
      have hcc := H.out.byteAt hc
      have hr := crc_lt 65535 (by decide) (B.take k)
      have hsn : crc 65535 (B.take (k + 1)) = crcStep (crc 65535 (B.take k)) c := by
        rw [← crc_snoc]; congr 1; rw [List.take_add_one, hc]; rfl
      generalize crc 65535 (B.take k) = r at *
      have HSN := Lib.hid hsn
      have hwk : IntKind.i64.wrap ((k : Int) + 1) = (k : Int) + 1 := IntWalk.i64_in _ (by omega)
      have hltI : (k : Int) < (B.length : Int) := by omega
      clear hsn hc hlt
      go_wp2
      go_round
      case rel => exact ⟨k + 1, by go_num, by omega, by rw [HSN.out, crc_walk r c hr hc256]⟩
      case measure => simp [intOf]; omega
    · obtain rfl : k = B.length := by omega
      rw [List.take_length]
      go_wp2
      go_ret
      exact ⟨rfl, rfl⟩

theorem rsum_walk (r c : Nat) (hr : r < 65536) (hc : c < 256) : bits .xor .u16 (r : Int) ((c : Int) * 256) = ((r ^^^ (c * 256 % 65536) : Nat) : Int) := by
  have a2 : (c : Int) * 256 = ((c * 256 % 65536 : Nat) : Int) := by omega
  rw [a2, bits_xor_u16_nat r _ hr (Nat.mod_lt _ (by decide))]

set_option maxRecDepth 100000 in
theorem rsum_any {w : World} {v : Value} {B : List Nat} (h : Rd BK w v B) (hB : B.length ≤ 1000000) (hBx : ∀ x ∈ B, x < 256) : Calls Tryz.prog 129 #[v] w fun e w' => e = .returned (.int .u16 (crc 65535 B : Int)) ∧ w = w' := by
  obtain ⟨A, cap, rfl⟩ := h.shape
  have H := Lib.hid h; have HX := Lib.hid hBx
  clear h hBx
  go_enter Tryz.func129, Tryz.ntmps129
  go_wp2
  go_loop [3, 4] (fun r i => ∃ k : Nat, i = .int .i64 k ∧ k ≤ B.length ∧ r = .int .u16 (crc 65535 (B.take k) : Int)) (fun _ i => B.length - (intOf i).toNat)
  case atStart => exact ⟨0, rfl, by omega, rfl⟩
  case round =>
    obtain ⟨k, rfl, hk, rfl⟩ := hrel
    by_cases hlt : k < B.length
    · obtain ⟨c, hc⟩ : ∃ c, B[k]? = some c := ⟨_, List.getElem?_eq_getElem hlt⟩
      have hc256 := HX.out c (List.mem_of_getElem? hc)
      rcases H.out with ⟨hv, he⟩ | ⟨g, o, cap', hv, _⟩
      · rw [he] at hlt; simp at hlt
      simp only [Value.slice.injEq] at hv
      obtain ⟨rfl, _, rfl⟩ := hv
      have hcc := H.out.byteAt hc
      have hr := crc_lt 65535 (by decide) (B.take k)
      have hsn : crc 65535 (B.take (k + 1)) = crcStep (crc 65535 (B.take k)) c := by
        rw [← crc_snoc]; congr 1; rw [List.take_add_one, hc]; rfl
      generalize crc 65535 (B.take k) = r at *
      have HSN := Lib.hid hsn
      have hwk : IntKind.i64.wrap ((k : Int) + 1) = (k : Int) + 1 := IntWalk.i64_in _ (by omega)
      have hltI : (k : Int) < (B.length : Int) := by omega
      have hq := rsum_walk r c hr hc256
      have hq16 : r ^^^ (c * 256 % 65536) < 65536 := Nat.xor_lt_two_pow (n := 16) hr (Nat.mod_lt _ (by decide))
      obtain ⟨q, hqq⟩ : ∃ q, q = r ^^^ (c * 256 % 65536) := ⟨_, rfl⟩
      rw [← hqq] at hq hq16
      have HST : Hid (crcStep r c = rnds 8 q) := by rw [hqq]; rfl
      clear hsn hc hlt hqq
      go_wp2
      go_loop [3, 5] (fun r i => ∃ j : Nat, i = .int .i64 j ∧ j ≤ 8 ∧ r = .int .u16 (rnds j q : Int)) (fun _ i => 8 - (intOf i).toNat)
      case atStart => exact ⟨0, rfl, by omega, rfl⟩
      case round =>
        obtain ⟨j, rfl, hj, rfl⟩ := hrel
        have hz := rnds_lt j q hq16
        have hzs := rnds_snoc j q
        by_cases hj8 : j < 8
        · have hjI : (j : Int) < 8 := by omega
          have hwj : IntKind.i64.wrap ((j : Int) + 1) = (j : Int) + 1 := IntWalk.i64_in _ (by omega)
          generalize rnds j q = z at *
          have HZS := Lib.hid hzs
          have e1 : IntKind.u16.wrap ((z : Int) * 2) = ((z * 2 % 65536 : Nat) : Int) := u16_mul z 2
          obtain ⟨z2, hz2⟩ : ∃ z2, z2 = z * 2 % 65536 := ⟨_, rfl⟩
          rw [← hz2] at e1
          obtain ⟨o1, ho1⟩ : ∃ o1, o1 = z / 32768 := ⟨_, rfl⟩
          have e2 : (z : Int) / 32768 = (o1 : Int) := by omega
          have e3 : IntKind.u16.wrap (o1 : Int) = (o1 : Int) := by show (o1 : Int) % 65536 = _; omega
          by_cases ho : o1 = 1
          · have e4 : bits .xor .u16 (z2 : Int) 4129 = ((z2 ^^^ 4129 : Nat) : Int) := bits_xor_u16_nat z2 4129 (by omega) (by decide)
            obtain ⟨z3, hz3⟩ : ∃ z3, z3 = z2 ^^^ 4129 := ⟨_, rfl⟩
            rw [← hz3] at e4
            have HR := Lib.hid (show rnds (j + 1) q = z3 by rw [hzs, hz3, hz2]; unfold rnd; rw [if_pos (by omega)])
            have e5 : ((o1 : Int) == 1) = true := by simp [ho]
            clear hzs hz2 hz3 ho1 ho hj8
            go_wp2
            go_round
            case rel => exact ⟨j + 1, by go_num, by omega, by rw [HR.out]⟩
            case measure => simp [intOf]; omega
          · have HR := Lib.hid (show rnds (j + 1) q = z2 by rw [hzs, hz2]; unfold rnd; rw [if_neg (by omega), Nat.xor_zero])
            have e5 : ((o1 : Int) == 1) = false := by simp; omega
            clear hzs hz2 ho1 ho hj8
            go_wp2
            go_round
            case rel => exact ⟨j + 1, by go_num, by omega, by rw [HR.out]⟩
            case measure => simp [intOf]; omega
        · obtain rfl : j = 8 := by omega
          rw [← HST.out, show ((8 : Nat) : Int) = 8 from rfl]
          clear hzs hz hj8
          go_wp2
          go_round
          case rel => exact ⟨k + 1, by go_num, by omega, by rw [HSN.out]⟩
          case measure => simp [intOf]; omega
    · obtain rfl : k = B.length := by omega
      rw [List.take_length]
      go_wp2
      go_ret
      exact ⟨rfl, rfl⟩
end Go.Proofs.YtfpikgkbccgchaaGreatDoor
