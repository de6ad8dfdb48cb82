/- check.Sum, carfaxref02.Sum: the walks. -/
import Derived.Test.YtnejjjoedmefkaaCrc
import Derived.Test.YtnejjjoedmefkaaRefJ
namespace Go.Proofs.Ytnejjjoedmefkaa
set_option linter.unusedVariables false
set_option linter.unusedSimpArgs false
open Go.RowKit

theorem bits_xor_u8_nat (a b : Nat) (ha : a < 256) (hb : b < 256) : bits .xor .u8 (a : Int) (b : Int) = ((a ^^^ b : Nat) : Int) := by
  have hx : a ^^^ b < 2 ^ 8 := Nat.xor_lt_two_pow (by omega) (by omega)
  have h1 : (BitVec.ofInt 8 (a : Int)).toNat = a := by
    rw [BitVec.ofInt_natCast, BitVec.toNat_ofNat]; exact Nat.mod_eq_of_lt (by omega)
  have h2 : (BitVec.ofInt 8 (b : Int)).toNat = b := by
    rw [BitVec.ofInt_natCast, BitVec.toNat_ofNat]; exact Nat.mod_eq_of_lt (by omega)
  show IntKind.u8.wrap ((BitVec.ofInt 8 (a : Int) ^^^ BitVec.ofInt 8 (b : Int)).toNat : Int) = _
  rw [BitVec.toNat_xor, h1, h2]
  show (((a ^^^ b : Nat) : Int) % 256) = _
  omega
theorem bits_xor_u16_nat (a b : Nat) (ha : a < 65536) (hb : b < 65536) : bits .xor .u16 (a : Int) (b : Int) = ((a ^^^ b : Nat) : Int) := by
  have hx : a ^^^ b < 2 ^ 16 := Nat.xor_lt_two_pow (by omega) (by omega)
  have h1 : (BitVec.ofInt 16 (a : Int)).toNat = a := by
    rw [BitVec.ofInt_natCast, BitVec.toNat_ofNat]; exact Nat.mod_eq_of_lt (by omega)
  have h2 : (BitVec.ofInt 16 (b : Int)).toNat = b := by
    rw [BitVec.ofInt_natCast, BitVec.toNat_ofNat]; exact Nat.mod_eq_of_lt (by omega)
  show IntKind.u16.wrap ((BitVec.ofInt 16 (a : Int) ^^^ BitVec.ofInt 16 (b : Int)).toNat : Int) = _
  rw [BitVec.toNat_xor, h1, h2]
  show (((a ^^^ b : Nat) : Int) % 65536) = _
  omega

theorem u16_mul (x m : Nat) : IntKind.u16.wrap ((x : Int) * (m : Int)) = ((x * m % 65536 : Nat) : Int) := by
  show ((x : Int) * (m : Int)) % 65536 = _
  rw [← Int.natCast_mul]; omega
theorem crc_walk (r c : Nat) (hr : r < 65536) (hc : c < 256) :
    bits .xor .u16 (bits .xor .u16 (bits .xor .u16 (IntKind.u16.wrap ((r : Int) * 256)) (IntKind.u16.wrap (IntKind.u16.wrap (bits .xor .u8 (bits .xor .u8 ((r : Int) / 256) (c : Int)) (bits .xor .u8 ((r : Int) / 256) (c : Int) / 16)) * 4096)))
      (IntKind.u16.wrap (IntKind.u16.wrap (bits .xor .u8 (bits .xor .u8 ((r : Int) / 256) (c : Int)) (bits .xor .u8 ((r : Int) / 256) (c : Int) / 16)) * 32)))
      (IntKind.u16.wrap (bits .xor .u8 (bits .xor .u8 ((r : Int) / 256) (c : Int)) (bits .xor .u8 ((r : Int) / 256) (c : Int) / 16))) = (crcStep r c : Int) := by
  rw [crcStep_eq r c hr hc]
  have hy : r / 256 ^^^ c < 256 := Nat.xor_lt_two_pow (n := 8) (by omega) (by omega)
  have a1 : (r : Int) / 256 = ((r / 256 : Nat) : Int) := by omega
  rw [a1, bits_xor_u8_nat (r / 256) c (by omega) hc]
  generalize r / 256 ^^^ c = y at *
  have a2 : (y : Int) / 16 = ((y / 16 : Nat) : Int) := by omega
  have hx : y ^^^ y / 16 < 256 := Nat.xor_lt_two_pow (n := 8) (by omega) (by omega)
  rw [a2, bits_xor_u8_nat y (y / 16) hy (by omega)]
  generalize y ^^^ y / 16 = x at *
  have a3 : IntKind.u16.wrap (x : Int) = (x : Int) := by show (x : Int) % 65536 = _; omega
  have a4 : IntKind.u16.wrap ((r : Int) * 256) = ((r * 256 % 65536 : Nat) : Int) := u16_mul r 256
  have a5 : IntKind.u16.wrap ((x : Int) * 4096) = ((x * 4096 % 65536 : Nat) : Int) := u16_mul x 4096
  have a6 : IntKind.u16.wrap ((x : Int) * 32) = ((x * 32 % 65536 : Nat) : Int) := u16_mul x 32
  have b1 : r * 256 % 65536 < 65536 := Nat.mod_lt _ (by decide)
  have b2 : x * 4096 % 65536 < 65536 := Nat.mod_lt _ (by decide)
  have b3 : x * 32 % 65536 < 65536 := Nat.mod_lt _ (by decide)
  rw [a3, a4, a5, a6, bits_xor_u16_nat _ _ b1 b2]
  have b4 : r * 256 % 65536 ^^^ x * 4096 % 65536 < 65536 := Nat.xor_lt_two_pow (n := 16) b1 b2
  rw [bits_xor_u16_nat _ _ b4 b3]
  have b5 : (r * 256 % 65536 ^^^ x * 4096 % 65536) ^^^ x * 32 % 65536 < 65536 := Nat.xor_lt_two_pow (n := 16) b4 b3
  rw [bits_xor_u16_nat _ _ b5 (by omega)]

set_option maxRecDepth 100000 in
theorem sum_any {w : World} {v : Value} {B : List Nat} (h : Rd BK w v B) (hB : B.length ≤ 1000000) (hBx : ∀ x ∈ B, x < 256) : Calls Try.prog 60 #[v] w fun e w' => e = .returned (.int .u16 (crc 65535 B : Int)) ∧ w = w' := by
  obtain ⟨A, cap, rfl⟩ := h.shape
  have H := Lib.hid h; have HX := Lib.hid hBx
  clear h hBx
  go_enter Try.func60, Try.ntmps60
  go_wp2
  go_loop [3, 9] (fun r i => ∃ k : Nat, i = .int .i64 k ∧ k ≤ B.length ∧ r = .int .u16 (crc 65535 (B.take k) : Int)) (fun _ i => B.length - (intOf i).toNat)
  case atStart => exact ⟨0, rfl, by omega, rfl⟩
  case round =>
    obtain ⟨k, rfl, hk, rfl⟩ := hrel
    by_cases hlt : k < B.length
    · obtain ⟨c, hc⟩ : ∃ c, B[k]? = some c := ⟨_, List.getElem?_eq_getElem hlt⟩
      have hc256 := HX.out c (List.mem_of_getElem? hc)
      rcases H.out with ⟨hv, he⟩ | ⟨g, o, cap', hv, _⟩
      · rw [he] at hlt; simp at hlt
      simp only [Value.slice.injEq] at hv
      obtain ⟨rfl, _, rfl⟩ := hv
      have hcc := H.out.byteAt hc
      have hr := crc_lt 65535 (by decide) (B.take k)
      have hsn : crc 65535 (B.take (k + 1)) = crcStep (crc 65535 (B.take k)) c := by
        rw [← crc_snoc]; congr 1; rw [List.take_add_one, hc]; rfl
      generalize crc 65535 (B.take k) = r at *
      have HSN := Lib.hid hsn
      have hwk : IntKind.i64.wrap ((k : Int) + 1) = (k : Int) + 1 := IntWalk.i64_in _ (by omega)
      have hltI : (k : Int) < (B.length : Int) := by omega
      clear hsn hc hlt
      go_wp2
      go_round
      case rel => exact ⟨k + 1, by go_num, by omega, by rw [HSN.out, crc_walk r c hr hc256]⟩
      case measure => simp [intOf]; omega
    · obtain rfl : k = B.length := by omega
      rw [List.take_length]
      go_wp2
      go_ret
      exact ⟨rfl, rfl⟩

theorem rsum_walk (r c : Nat) (hr : r < 65536) (hc : c < 256) : bits .xor .u16 (r : Int) ((c : Int) * 256) = ((r ^^^ (c * 256 % 65536) : Nat) : Int) := by
  have a2 : (c : Int) * 256 = ((c * 256 % 65536 : Nat) : Int) := by omega
  rw [a2, bits_xor_u16_nat r _ hr (Nat.mod_lt _ (by decide))]

set_option maxRecDepth 100000 in
theorem rsum_any {w : World} {v : Value} {B : List Nat} (h : Rd BK w v B) (hB : B.length ≤ 1000000) (hBx : ∀ x ∈ B, x < 256) : Calls Try.prog 62 #[v] w fun e w' => e = .returned (.int .u16 (crc 65535 B : Int)) ∧ w = w' := by
  obtain ⟨A, cap, rfl⟩ := h.shape
  have H := Lib.hid h; have HX := Lib.hid hBx
  clear h hBx
  go_enter Try.func62, Try.ntmps62
  go_wp2
  go_loop [3, 4] (fun r i => ∃ k : Nat, i = .int .i64 k ∧ k ≤ B.length ∧ r = .int .u16 (crc 65535 (B.take k) : Int)) (fun _ i => B.length - (intOf i).toNat)
  case atStart => exact ⟨0, rfl, by omega, rfl⟩
  case round =>
    obtain ⟨k, rfl, hk, rfl⟩ := hrel
    by_cases hlt : k < B.length
    · obtain ⟨c, hc⟩ : ∃ c, B[k]? = some c := ⟨_, List.getElem?_eq_getElem hlt⟩
      have hc256 := HX.out c (List.mem_of_getElem? hc)
      rcases H.out with ⟨hv, he⟩ | ⟨g, o, cap', hv, _⟩
      · rw [he] at hlt; simp at hlt
      simp only [Value.slice.injEq] at hv
      obtain ⟨rfl, _, rfl⟩ := hv
      have hcc := H.out.byteAt hc
      have hr := crc_lt 65535 (by decide) (B.take k)
      have hsn : crc 65535 (B.take (k + 1)) = crcStep (crc 65535 (B.take k)) c := by
        rw [← crc_snoc]; congr 1; rw [List.take_add_one, hc]; rfl
      generalize crc 65535 (B.take k) = r at *
      have HSN := Lib.hid hsn
      have hwk : IntKind.i64.wrap ((k : Int) + 1) = (k : Int) + 1 := IntWalk.i64_in _ (by omega)
      have hltI : (k : Int) < (B.length : Int) := by omega
      have hq := rsum_walk r c hr hc256
      have hq16 : r ^^^ (c * 256 % 65536) < 65536 := Nat.xor_lt_two_pow (n := 16) hr (Nat.mod_lt _ (by decide))
      obtain ⟨q, hqq⟩ : ∃ q, q = r ^^^ (c * 256 % 65536) := ⟨_, rfl⟩
      rw [← hqq] at hq hq16
      have HST : Hid (crcStep r c = rnds 8 q) := by rw [hqq]; rfl
      clear hsn hc hlt hqq
      go_wp2
      go_loop [3, 5] (fun r i => ∃ j : Nat, i = .int .i64 j ∧ j ≤ 8 ∧ r = .int .u16 (rnds j q : Int)) (fun _ i => 8 - (intOf i).toNat)
      case atStart => exact ⟨0, rfl, by omega, rfl⟩
      case round =>
        obtain ⟨j, rfl, hj, rfl⟩ := hrel
        have hz := rnds_lt j q hq16
        have hzs := rnds_snoc j q
        by_cases hj8 : j < 8
        · have hjI : (j : Int) < 8 := by omega
          have hwj : IntKind.i64.wrap ((j : Int) + 1) = (j : Int) + 1 := IntWalk.i64_in _ (by omega)
          generalize rnds j q = z at *
          have HZS := Lib.hid hzs
          have e1 : IntKind.u16.wrap ((z : Int) * 2) = ((z * 2 % 65536 : Nat) : Int) := u16_mul z 2
          obtain ⟨z2, hz2⟩ : ∃ z2, z2 = z * 2 % 65536 := ⟨_, rfl⟩
          rw [← hz2] at e1
          obtain ⟨o1, ho1⟩ : ∃ o1, o1 = z / 32768 := ⟨_, rfl⟩
          have e2 : (z : Int) / 32768 = (o1 : Int) := by omega
          have e3 : IntKind.u16.wrap (o1 : Int) = (o1 : Int) := by show (o1 : Int) % 65536 = _; omega
          by_cases ho : o1 = 1
          · have e4 : bits .xor .u16 (z2 : Int) 4129 = ((z2 ^^^ 4129 : Nat) : Int) := bits_xor_u16_nat z2 4129 (by omega) (by decide)
            obtain ⟨z3, hz3⟩ : ∃ z3, z3 = z2 ^^^ 4129 := ⟨_, rfl⟩
            rw [← hz3] at e4
            have HR := Lib.hid (show rnds (j + 1) q = z3 by rw [hzs, hz3, hz2]; unfold rnd; rw [if_pos (by omega)])
            have e5 : ((o1 : Int) == 1) = true := by simp [ho]
            clear hzs hz2 hz3 ho1 ho hj8
            go_wp2
            go_round
            case rel => exact ⟨j + 1, by go_num, by omega, by rw [HR.out]⟩
            case measure => simp [intOf]; omega
          · have HR := Lib.hid (show rnds (j + 1) q = z2 by rw [hzs, hz2]; unfold rnd; rw [if_neg (by omega), Nat.xor_zero])
            have e5 : ((o1 : Int) == 1) = false := by simp; omega
            clear hzs hz2 ho1 ho hj8
            go_wp2
            go_round
            case rel => exact ⟨j + 1, by go_num, by omega, by rw [HR.out]⟩
            case measure => simp [intOf]; omega
        · obtain rfl : j = 8 := by omega
          rw [← HST.out, show ((8 : Nat) : Int) = 8 from rfl]
          clear hzs hz hj8
          go_wp2
          go_round
          case rel => exact ⟨k + 1, by go_num, by omega, by rw [HSN.out]⟩
          case measure => simp [intOf]; omega
    · obtain rfl : k = B.length := by omega
      rw [List.take_length]
      go_wp2
      go_ret
      exact ⟨rfl, rfl⟩
end Go.Proofs.Ytnejjjoedmefkaa
