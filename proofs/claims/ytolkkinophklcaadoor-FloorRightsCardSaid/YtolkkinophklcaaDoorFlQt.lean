/- One string is appended to a slice in new memory; carfaxref03.Rows, wrong. -/
import Derived.Test.YtolkkinophklcaaDoorFlT
import Derived.Test.YtolkkinophklcaaDoorFlQx
namespace Go.Proofs.YtolkkinophklcaaDoor
set_option linter.unusedVariables false
set_option linter.unusedSimpArgs false
open Go.RowKit

theorem wpl_snocS {w w0 : World} {ops : Array Oper} {rest : List Oper} {o : Oper} {a : Act} {Q : Exit → Act → World → Prop} (hgd : o.guard = none) (s x : Operand)
    (ho : o.op = .call { callee := .builtin .append, args := #[s, x], argTypes := #[42, 42] }) {v : Value} {b m : Nat} {r : ByteArray} {L : List ByteArray} (hs : a.eval s = v) (hxv : a.eval x = .slice (some ⟨b, 0, none⟩) 1 1) (hb : b = w.heap.size)
    (ns : NewS SRK 9 w0 w v L) (hm : m = L.length) (hl : m ≤ 1000000)
    (h : ∀ A q w', NewS SRK 9 w0 w' (.slice A (m + 1) q) (L ++ [r]) → wpList Tryd.prog ops Q rest (a.put o.dst (.slice A (m + 1) q)) w') :
    wpList Tryd.prog ops Q (o :: rest) a (w.alloc (.cells #[.string r] 9)) := by
  subst hb hm
  refine wpl_append elSR hgd s x ho hs hxv (l := L) (m := [r]) (ns.own.alloc _) (Rd.litAt SRK 9 _ _ [r] rfl (by unfold maxLen; rw [List.length_singleton]; omega) _ _ rfl rfl) (by unfold maxLen; rw [List.length_singleton]; omega) (by rw [List.length_singleton]; omega) ?_
  intro v' w' k1 k2 k3
  have q := NewS.app2 k1 k2 k3 ((Kp.refl No w).alloc (.cells #[.string r] 9)) ns (by simp)
  obtain ⟨A, c, rfl⟩ := k1.rd.shape
  rw [List.length_append, List.length_singleton] at q ⊢
  exact h A c w' q

/-- Behind i bytes: the rows that ended, where the one begins that has not. -/
structure RwI (s : ByteArray) (i fr : Nat) (L : List ByteArray) : Prop where
  pc : pcs (s.data.toList.take i) = L.map (·.data.toList) ++ [(s.data.toList.take i).drop fr]
  le : fr ≤ i
theorem RwI.start (s : ByteArray) : RwI s 0 0 [] := ⟨by simp [pcs], Nat.le_refl _⟩
theorem data_at (s : ByteArray) (i : Nat) (h : i < s.size) : s.data.toList[i]? = some (s[i]'h) := by
  rw [List.getElem?_eq_getElem (by rw [← Lib.size_eq]; exact h)]; rfl
theorem bt_eq {s : ByteArray} {i : Nat} (h : i < s.size) (c : UInt8) : bt s i = c.toNat ↔ s[i]'h = c := by
  rw [← bt_at s i h]
  exact ⟨fun e => UInt8.toNat_inj.1 e, fun e => by rw [e]⟩
theorem RwI.step {s : ByteArray} {i fr : Nat} {L : List ByteArray} (h : RwI s i fr L) (hi : i < s.size) (hc : bt s i ≠ 10) : RwI s (i + 1) fr L := by
  have hn : s[i]'hi ≠ 10 := fun e => hc ((bt_eq hi 10).2 e)
  refine ⟨?_, by have := h.le; omega⟩
  rw [List.take_add_one, data_at s i hi]
  have := pcs_snoc _ _ _ (s[i]'hi) hn h.pc
  rw [Option.toList_some, this, List.drop_append_of_le_length]
  rw [List.length_take, ← Lib.size_eq]; have := h.le; omega
theorem RwI.cut {s : ByteArray} {i fr : Nat} {L : List ByteArray} (h : RwI s i fr L) (hi : i < s.size) (hc : bt s i = 10) : RwI s (i + 1) (i + 1) (L ++ [s.extract fr i]) := by
  have hn : s[i]'hi = 10 := (bt_eq hi 10).1 hc
  refine ⟨?_, Nat.le_refl _⟩
  rw [List.take_add_one, data_at s i hi, hn, Option.toList_some, pcs_snoc10, h.pc, List.map_append, List.map_singleton, Lib.extract_data, List.take_drop]
  have e1 : (s.data.toList.take i ++ [10]).drop (i + 1) = [] := List.drop_eq_nil_of_le (by simp; omega)
  have e2 : fr + (i - fr) = i := by have := h.le; omega
  rw [e1, e2]
theorem map_mk (L : List ByteArray) : (L.map (·.data.toList)).map mkB = L := by
  rw [List.map_map]
  have : (mkB ∘ fun x : ByteArray => x.data.toList) = id := by funext x; exact mkB_data x
  rw [this, List.map_id]
theorem RwI.rows {s : ByteArray} {fr : Nat} {L : List ByteArray} (h : RwI s s.size fr L) : rowsB s = if fr < s.size then L ++ [s.extract fr s.size] else L := by
  have hp := h.pc
  have e : s.data.toList.take s.size = s.data.toList := List.take_of_length_le (by rw [← Lib.size_eq]; exact Nat.le_refl _)
  rw [e] at hp
  unfold rowsB
  rw [rowsL_of hp]
  have hl : (s.data.toList.drop fr).length = s.size - fr := by rw [List.length_drop, ← Lib.size_eq]
  split
  · rename_i h1
    rw [h1] at hl
    rw [if_neg (by simp at hl; omega), map_mk]
  · rename_i h1
    have : fr < s.size := by
      rcases Nat.lt_or_ge fr s.size with h2 | h2
      · exact h2
      · exact absurd (List.eq_nil_of_length_eq_zero (by rw [hl]; omega)) h1
    rw [if_pos this, List.map_append, map_mk, List.map_singleton, ← Lib.extract_to_end, mkB_data]
theorem RwI.len {s : ByteArray} {i fr : Nat} {L : List ByteArray} (h : RwI s i fr L) : L.length ≤ i := by
  have h1 := pcs_lenle (s.data.toList.take i)
  rw [h.pc] at h1
  simp at h1; omega

set_option maxHeartbeats 1000000 in
set_option maxRecDepth 100000 in
theorem qrows_any (s : ByteArray) (hs : s.size ≤ 900000) (w : World) : Calls Tryd.prog 31 #[.string s] w fun e w' => ∃ v, e = .returned v ∧ NewS SRK 9 w w' v (rowsB s) := by
  obtain ⟨n, hn⟩ : ∃ n, n = s.size := ⟨_, rfl⟩
  have hnI : ((s.size : Nat) : Int) = (n : Int) := by omega
  have HN := Lib.hid hn
  have hn2 : n ≤ 900000 := by omega
  clear hn hs
  go_enter Tryd.func31, Tryd.ntmps31
  go_wp2_with fail
  go_loopg [3, 4, 5] (n + 1) (fun g2 lv fv iv wx => ∃ (i fr m : Nat) (L : List ByteArray) (A : Option Addr) (q : Nat), g2 = n + 1 - i ∧ iv = .int .i64 i ∧ i ≤ n ∧ fv = .int .i64 fr ∧ lv = .slice A m q ∧ m = L.length ∧ m ≤ i ∧ fr ≤ i ∧ RwI s i fr L ∧ NewS SRK 9 w wx lv L)
  case atStart => exact ⟨0, 0, 0, [], none, 0, rfl, rfl, by omega, rfl, rfl, rfl, by omega, by omega, RwI.start s, NewS.nil _ _ _⟩
  case round =>
    obtain ⟨i, fr, m, L, A, q, hg2, rfl, hi, rfl, rfl, hm, hmi, hfi, rw_, ns⟩ := hrel
    have RW := Lib.hid rw_; have NS := Lib.hid ns; have HM := Lib.hid hm
    clear rw_ ns hm
    by_cases hlt : i < n
    · have hltI : (i : Int) < (n : Int) := by omega
      have hwi : IntKind.i64.wrap ((i : Int) + 1) = (i : Int) + 1 := IntWalk.i64_in _ (by omega)
      have hks : i < s.size := by have := HN.out; omega
      have hbt := bt_at s i
      obtain ⟨B, hB⟩ : ∃ B, B = bt s i := ⟨_, rfl⟩
      rw [← hB] at hbt
      by_cases h10 : B = 10
      · have h10b : ((B : Int) == 10) = true := by simp [h10]
        have R2 := Lib.hid (RW.out.cut hks (by rw [← hB, h10]))
        clear hB h10 hlt
        go_wp2_with (at_builtin; refine wpl_snocS rfl (.tmp 16) (.tmp 21) rfl rfl rfl rfl NS.out HM.out (by omega) ?_; intro A2 q2 w4 n4; have N4 := Lib.hid n4; clear n4)
        go_roundg (n + 1 - (i + 1))
        case measure => omega
        case rel => exact ⟨i + 1, i + 1, m + 1, _, A2, q2, rfl, by go_num, by omega, by go_num, rfl, by rw [List.length_append, ← HM.out]; rfl, by omega, by omega, R2.out, N4.out⟩
      · have h10b : ((B : Int) == 10) = false := by simp; omega
        have R2 := Lib.hid (RW.out.step hks (by rw [← hB]; exact h10))
        clear hB h10 hlt hks
        go_wp2_with fail
        go_roundg (n + 1 - (i + 1))
        case measure => omega
        case rel => exact ⟨i + 1, fr, m, L, A, q, rfl, by go_num, by omega, rfl, rfl, HM.out, by omega, by omega, R2.out, NS.out⟩
    · obtain rfl : i = n := by omega
      have hd0 : ¬ (i : Int) < (i : Int) := by omega
      have HR := Lib.hid (show rowsB s = if fr < i then L ++ [s.extract fr s.size] else L by rw [RwI.rows (by rw [← HN.out]; exact RW.out), ← HN.out])
      clear hlt
      by_cases hf : fr < i
      · have hfI : (fr : Int) < (i : Int) := by omega
        have HR2 := Lib.hid (show rowsB s = L ++ [s.extract fr i] by rw [HR.out, if_pos hf, ← HN.out])
        have hfs : fr ≤ s.size := by have := HN.out; omega
        have hnn : s.size = i := HN.out.symm
        clear hf
        go_wp2_with (at_builtin; refine wpl_snocS rfl (.tmp 29) (.tmp 33) rfl rfl rfl rfl NS.out HM.out (by omega) ?_; intro A2 q2 w4 n4; have N4 := Lib.hid n4; clear n4)
        go_ret
        exact ⟨_, rfl, by rw [HR2.out]; exact N4.out⟩
      · have hfI : ¬ (fr : Int) < (i : Int) := by omega
        have HR2 := Lib.hid (show rowsB s = L by rw [HR.out, if_neg hf])
        clear hf
        go_wp2_with fail
        go_ret
        exact ⟨_, rfl, by rw [HR2.out]; exact NS.out⟩
end Go.Proofs.YtolkkinophklcaaDoor
