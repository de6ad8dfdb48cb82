/- A text's rows, plain; which rows may be; the floor of a text. No function of the program. -/
import Derived.Test.YtolkkinophklcaaDoorFlA
import Derived.Lib.SplitLaws
namespace Go.Proofs.YtolkkinophklcaaDoor
set_option linter.unusedVariables false
set_option linter.unusedSimpArgs false
open Go.RowKit

/-- The pieces between the bytes 10. -/
def pcs : List UInt8 → List (List UInt8)
  | [] => [[]]
  | c :: l => if c = 10 then [] :: pcs l else match pcs l with
    | [] => [[c]]
    | p :: ps => (c :: p) :: ps
theorem pcs_ne (l : List UInt8) : pcs l ≠ [] := by
  cases l with
  | nil => simp [pcs]
  | cons c l => unfold pcs; split; simp; split <;> simp
theorem pcs_free {l : List UInt8} (h : (10 : UInt8) ∉ l) : pcs l = [l] := by
  induction l with
  | nil => rfl
  | cons c l ih =>
    rw [pcs, if_neg (fun e => h (by simp [e])), ih (fun e => h (by simp [e]))]
theorem pcs_cut {a : List UInt8} (b : List UInt8) (h : (10 : UInt8) ∉ a) : pcs (a ++ 10 :: b) = a :: pcs b := by
  induction a with
  | nil => rw [List.nil_append, pcs, if_pos rfl]
  | cons c a ih =>
    rw [List.cons_append, pcs, if_neg (fun e => h (by simp [e])), ih (fun e => h (by simp [e]))]
theorem pcs_snoc10 : ∀ (l : List UInt8), pcs (l ++ [10]) = pcs l ++ [[]] := by
  intro l
  induction l with
  | nil => rfl
  | cons c l ih =>
    rw [List.cons_append, pcs, pcs, ih]
    split
    · rfl
    · rcases h : pcs l with _ | ⟨p, ps⟩
      · exact absurd h (pcs_ne l)
      · rfl
theorem pcs_snoc : ∀ (l : List UInt8) (L : List (List UInt8)) (cur : List UInt8) (c : UInt8), c ≠ 10 → pcs l = L ++ [cur] → pcs (l ++ [c]) = L ++ [cur ++ [c]] := by
  intro l
  induction l with
  | nil =>
    intro L cur c hc h
    rcases L with _ | ⟨x, L⟩
    · simp [pcs] at h; subst h; simp [pcs, hc]
    · simp [pcs] at h
  | cons d l ih =>
    intro L cur c hc h
    rw [List.cons_append, pcs]
    rw [pcs] at h
    split at h
    · rename_i e
      rw [if_pos e]
      rcases L with _ | ⟨x, L⟩
      · simp at h; exact absurd h.2 (pcs_ne l)
      · simp at h
        rw [ih L cur c hc h.2, ← h.1]; rfl
    · rename_i e
      rw [if_neg e]
      rcases hp : pcs l with _ | ⟨p, ps⟩
      · exact absurd hp (pcs_ne l)
      · rw [hp] at h
        simp only at h
        rcases L with _ | ⟨x, L⟩
        · simp at h
          obtain ⟨rfl, rfl⟩ := h
          rw [ih [] p c hc hp]; rfl
        · simp at h
          obtain ⟨rfl, rfl⟩ := h
          rw [ih (p :: L) cur c hc hp]; rfl
/-- A text's rows. -/
def rowsL (l : List UInt8) : List (List UInt8) := if (pcs l).getLast? = some [] then (pcs l).dropLast else pcs l
theorem rowsL_of {l : List UInt8} {L : List (List UInt8)} {cur : List UInt8} (h : pcs l = L ++ [cur]) : rowsL l = if cur = [] then L else L ++ [cur] := by
  unfold rowsL; rw [h]; simp
theorem index_miss : ∀ {l : List UInt8}, (10 : UInt8) ∉ l → Lib.indexByte l 10 = -1 := by
  intro l
  induction l with
  | nil => intro _; rfl
  | cons c l ih =>
    intro h
    have h1 : (c == 10) = false := by simp; intro e; exact h (by simp [e])
    rw [Lib.indexByte, h1, ih (fun e => h (by simp [e]))]; rfl
theorem index_hit : ∀ {a : List UInt8} (b : List UInt8), (10 : UInt8) ∉ a → Lib.indexByte (a ++ 10 :: b) 10 = a.length := by
  intro a b
  induction a with
  | nil => intro _; rfl
  | cons c a ih =>
    intro h
    have h1 : (c == 10) = false := by simp; intro e; exact h (by simp [e])
    have h2 := ih (fun e => h (by simp [e]))
    rw [List.cons_append, Lib.indexByte, h1, h2, if_neg (by simp), if_neg (by simp <;> omega)]; simp
theorem splitK_pcs : ∀ (k : Nat) (l : List UInt8), l.count 10 = k → Lib.splitK [10] 0 k l = pcs l := by
  intro k
  induction k with
  | zero => intro l h; rw [pcs_free (List.count_eq_zero.1 h)]; rfl
  | succ k ih =>
    intro l h
    have hm : (10 : UInt8) ∈ l := by
      rcases Classical.em ((10 : UInt8) ∈ l) with hh | hh
      · exact hh
      · rw [List.count_eq_zero.2 hh] at h; cases h
    obtain ⟨a, b, rfl, ha⟩ := List.eq_append_cons_of_mem hm
    rw [List.count_append, List.count_eq_zero.2 ha, List.count_cons_self, Nat.zero_add] at h
    rw [Lib.splitK, Lib.index_one, index_hit b ha, if_neg (by simp <;> omega), pcs_cut b ha, Nat.add_zero, Int.toNat_natCast, List.take_left, ih _ (by simpa using h)]
    simp
theorem split_pcs (l : List UInt8) : Lib.splitK [10] 0 (Lib.count l [10]) l = pcs l := splitK_pcs _ _ (Lib.count_one 10 l).symm

/-! ### Over strings -/
def mkB (l : List UInt8) : ByteArray := ⟨l.toArray⟩
theorem mkB_data (s : ByteArray) : mkB s.data.toList = s := by unfold mkB; simp
theorem mkB_list (l : List UInt8) : (mkB l).data.toList = l := by simp [mkB]
theorem mkB_size (l : List UInt8) : (mkB l).size = l.length := by rw [Lib.size_eq, mkB_list]
def rowsB (s : ByteArray) : List ByteArray := (rowsL s.data.toList).map mkB
theorem split_rows (s sep : ByteArray) (hsep : sep = ⟨#[10]⟩) : Lib.splitB sep 0 (Lib.countB s sep) s = (pcs s.data.toList).map mkB := by
  subst hsep
  have h := Lib.splitB_data ⟨#[10]⟩ 0 (Lib.countB s ⟨#[10]⟩) s
  have h2 : Lib.countB s ⟨#[10]⟩ = Lib.count s.data.toList [10] := rfl
  rw [show (ByteArray.mk #[10]).data.toList = [10] from rfl, h2, split_pcs] at h
  rw [← h, List.map_map]
  have : (mkB ∘ fun x : ByteArray => x.data.toList) = id := by funext x; exact mkB_data x
  rw [h2, this, List.map_id]
/-- Which row may stand at a place. -/
def mayB (row first : ByteArray) (y : Nat) : Bool := decide (y < 16) && decide (row.size ≠ 0) && decide (row.size ≤ 16) && decide (row.size = first.size) && (List.range row.size).all fun i => kdS row i != 0
theorem mayB_iff {row first : ByteArray} {y : Nat} : mayB row first y = true ↔ y < 16 ∧ row.size ≠ 0 ∧ row.size ≤ 16 ∧ row.size = first.size ∧ ∀ i, i < row.size → kdS row i ≠ 0 := by
  unfold mayB; simp [and_assoc]
def badRow (R : List ByteArray) : Option Nat := (List.range R.length).find? fun y => !mayB (R.getD y ByteArray.empty) (R.getD 0 ByteArray.empty) y
theorem badRow_some {R : List ByteArray} {y : Nat} {row first : ByteArray} (hr : R[y]? = some row) (hf : R[0]? = some first) (hm : mayB row first y = false) (h : ∀ i r, i < y → R[i]? = some r → mayB r first i = true) : badRow R = some y := by
  unfold badRow
  have hl := (List.getElem?_eq_some_iff.1 hr).1
  have h0 : R.getD 0 ByteArray.empty = first := by simp [hf]
  rw [List.find?_range_eq_some, h0]
  refine ⟨by simp [hr, hm], by simpa using hl, fun j hj => ?_⟩
  have hjl : j < R.length := by omega
  have := h j _ hj (List.getElem?_eq_getElem hjl)
  simp [this, hjl]
theorem badRow_none {R : List ByteArray} {first : ByteArray} (hf : R[0]? = some first) (h : ∀ i r, i < R.length → R[i]? = some r → mayB r first i = true) : badRow R = none := by
  unfold badRow
  have h0 : R.getD 0 ByteArray.empty = first := by simp [hf]
  rw [List.find?_eq_none, h0]
  intro j hj
  have hjl : j < R.length := by simpa using hj
  have := h j _ hjl (List.getElem?_eq_getElem hjl)
  simp [this, hjl]
def joinB (R : List ByteArray) : ByteArray := mkB (R.map (·.data.toList)).flatten
def Flr.zero : Flr := ⟨0, 0, ByteArray.empty⟩
/-- What a text's parsing answers. -/
noncomputable def parseP (s : ByteArray) : Flr × Nat × Nat :=
  match badRow (rowsB s) with
  | some y => (Flr.zero, y, 30)
  | none => if rightB ⟨((rowsB s).getD 0 ByteArray.empty).size, (rowsB s).length, joinB (rowsB s)⟩ = true then (⟨((rowsB s).getD 0 ByteArray.empty).size, (rowsB s).length, joinB (rowsB s)⟩, 0, 0) else (Flr.zero, (rowsB s).length, 30)
def PVal (r : Flr × Nat × Nat) : Value := .tuple #[r.1.val, .int .i64 (r.2.1 : Int), .int .i64 (r.2.2 : Int)]
theorem zero_right : rightB Flr.zero = false := rightB_f fun r => by have := r.w1; simp [Flr.zero] at this
theorem parseP_ok {s : ByteArray} (h : (parseP s).2.2 = 0) : rightB (parseP s).1 = true := by
  unfold parseP at h ⊢
  cases h1 : badRow (rowsB s) with
  | some y => simp [h1] at h
  | none =>
    rw [h1] at h
    simp only at h ⊢
    by_cases h2 : rightB ⟨((rowsB s).getD 0 ByteArray.empty).size, (rowsB s).length, joinB (rowsB s)⟩ = true
    · rw [if_pos h2]; exact h2
    · rw [if_neg h2] at h; simp at h
theorem parseP_no {s : ByteArray} (h : (parseP s).2.2 ≠ 0) : (parseP s).1 = Flr.zero := by
  unfold parseP at h ⊢
  cases h1 : badRow (rowsB s) with
  | some y => rfl
  | none =>
    rw [h1] at h
    simp only at h ⊢
    by_cases h2 : rightB ⟨((rowsB s).getD 0 ByteArray.empty).size, (rowsB s).length, joinB (rowsB s)⟩ = true
    · rw [if_pos h2] at h; simp at h
    · rw [if_neg h2]
end Go.Proofs.YtolkkinophklcaaDoor
