/- Bytes as strings. -/
import Derived.Test.YtnejjjoedmefkaaBitW
import Derived.Laws.BytesArg
import Derived.WideShapes
import Derived.Laws.Strings
namespace Go.Proofs.Ytnejjjoedmefkaa
set_option linter.unusedVariables false
set_option linter.unusedSimpArgs false
open Go.RowKit

/-- The string of bytes. -/
def strB (l : List Nat) : ByteArray := strOfNums (l.map fun (x : Nat) => (x : Int))
theorem strB_data (l : List Nat) : (strB l).data.toList = l.map fun x => UInt8.ofNat x := by
  unfold strB
  rw [strOfNums_data, List.map_map]
  rfl
theorem strB_size (l : List Nat) : (strB l).size = l.length := by unfold strB; rw [strOfNums_size, List.length_map]
theorem strB_inj {a b : List Nat} (ha : ∀ x ∈ a, x < 256) (hb : ∀ x ∈ b, x < 256) (h : strB a = strB b) : a = b := by
  have h2 : a.map (fun x => UInt8.ofNat x) = b.map fun x => UInt8.ofNat x := by rw [← strB_data, ← strB_data, h]
  have h3 := congrArg (List.map UInt8.toNat) h2
  rw [List.map_map, List.map_map] at h3
  have key : ∀ l : List Nat, (∀ x ∈ l, x < 256) → l.map (UInt8.toNat ∘ fun x => UInt8.ofNat x) = l := by
    intro l hl
    conv => rhs; rw [← List.map_id l]
    refine List.map_congr_left fun x hx => ?_
    have := hl x hx
    simp only [Function.comp, UInt8.toNat_ofNat', id]
    exact Nat.mod_eq_of_lt this
  rwa [key a ha, key b hb] at h3
theorem Rd.str {w : World} {v : Value} {l : List Nat} (h : Rd BK w v l) : (convert 23 9 v).run Try.prog w = .ok (.string (strB l)) w := by
  rcases h with ⟨⟨A, c, rfl⟩, rfl⟩ | ⟨g, o, cap, rfl, h1, h2, h3⟩
  · cases A with
    | none => exact run_convert_bytes_nil w 23 5 (by kernel_rfl) (by kernel_rfl) 0 c 9 (by kernel_rfl)
    | some a =>
      rw [run_convert_bytes_string w 23 9 5 _ 0 c (by kernel_rfl) (by kernel_rfl) (by kernel_rfl)]
      simp [Conv.bytesToString, loadCells, loadCellsFrom]
      rfl
  · have hl : (l.map fun (x : Nat) => (x : Int)).length = l.length := List.length_map ..
    refine run_convert_bytes_arg w 23 5 (by kernel_rfl) (by kernel_rfl) g o l.length cap (l.map fun (x : Nat) => (x : Int)) hl (fun i hi => ?_) 9 (by kernel_rfl)
    refine h3 i _ ?_
    rw [encs_BK, List.getElem?_map, List.getElem?_eq_getElem hi, List.getD_eq_getElem?_getD, List.getElem?_map, List.getElem?_eq_getElem hi]
    rfl
theorem strB_beq {a b : List Nat} (ha : ∀ x ∈ a, x < 256) (hb : ∀ x ∈ b, x < 256) : ((strB a).toList == (strB b).toList) = decide (a = b) := by
  rw [Go.ByteArray.toList_eq, Go.ByteArray.toList_eq]
  by_cases h : a = b
  · subst h; simp
  · rw [decide_eq_false h, beq_eq_false_iff_ne]
    exact fun e => h (strB_inj ha hb (Go.WideShapes.bytes_inj e))
end Go.Proofs.Ytnejjjoedmefkaa
