/- A floor's text, plain. No function of the program. -/
import Derived.Test.YtolkkinophklcaaDoorFlSh
namespace Go.Proofs.YtolkkinophklcaaDoor
set_option linter.unusedVariables false
set_option linter.unusedSimpArgs false
open Go.RowKit

/-- Row y of a floor's cells. -/
def rowL (s : ByteArray) (W y : Nat) : List UInt8 := (s.data.toList.drop (y * W)).take W
def textTo (s : ByteArray) (W k : Nat) : List UInt8 := (List.range k).flatMap fun y => rowL s W y ++ [10]
theorem textTo_succ (s : ByteArray) (W k : Nat) : textTo s W (k + 1) = textTo s W k ++ (rowL s W k ++ [10]) := by
  unfold textTo; rw [List.range_succ, List.flatMap_append]; simp
theorem textTo_len (s : ByteArray) (W k : Nat) : (textTo s W k).length ≤ k * (W + 1) := by
  induction k with
  | zero => simp [textTo]
  | succ k ih =>
    rw [textTo_succ, List.length_append, List.length_append, List.length_singleton, Nat.add_mul]
    have : (rowL s W k).length ≤ W := by unfold rowL; exact List.length_take_le _ _
    omega
noncomputable def textP (f : Flr) : ByteArray := if rightB f = true then mkB (textTo f.s f.W.toNat f.H.toNat) else ⟨#[]⟩
theorem rowL_ext (s : ByteArray) (W y : Nat) : (s.extract (y * W) ((y + 1) * W)).data.toList = rowL s W y := by
  rw [Lib.extract_data]
  unfold rowL
  congr 1
  rw [Nat.add_mul]; omega
theorem pcs_rows : ∀ (R : List (List UInt8)), (∀ r ∈ R, (10 : UInt8) ∉ r) → pcs (R.flatMap (· ++ [10])) = R ++ [[]] := by
  intro R
  induction R with
  | nil => intro _; rfl
  | cons r R ih =>
    intro h
    rw [List.flatMap_cons, List.append_assoc, List.singleton_append, pcs_cut _ (h r (by simp)), ih (fun x hx => h x (by simp [hx]))]; rfl
theorem textTo_map (s : ByteArray) (W k : Nat) : textTo s W k = ((List.range k).map (rowL s W)).flatMap (· ++ [10]) := by
  unfold textTo; rw [List.flatMap_map]
theorem chunks (l : List UInt8) (W : Nat) : ∀ k, ((List.range k).map fun y => (l.drop (y * W)).take W).flatten = l.take (k * W) := by
  intro k
  induction k with
  | zero => simp
  | succ k ih =>
    rw [List.range_succ, List.map_append, List.flatten_append, ih]
    simp only [List.map_cons, List.map_nil, List.flatten_cons, List.flatten_nil, List.append_nil]
    rw [Nat.add_mul, Nat.one_mul, List.take_add]
theorem bt_list {s : ByteArray} {i : Nat} {c : UInt8} (h : s.data.toList[i]? = some c) : i < s.size ∧ bt s i = c.toNat := by
  have hi : i < s.size := by rw [Lib.size_eq]; exact (List.getElem?_eq_some_iff.1 h).1
  refine ⟨hi, ?_⟩
  rw [← bt_at s i hi]
  rw [List.getElem?_eq_getElem (by rw [← Lib.size_eq]; exact hi)] at h
  have h : s[i]'hi = c := by have := Option.some.inj h; exact this
  rw [h]
theorem bt_mkB (l : List UInt8) (i : Nat) (h : i < l.length) : bt (mkB l) i = (l[i]'h).toNat := by
  exact (bt_list (s := mkB l) (i := i) (c := l[i]'h) (by rw [mkB_list, List.getElem?_eq_getElem h])).2
/-- A right floor's rows. -/
structure FRows (f : Flr) (W H : Nat) (R : List (List UInt8)) : Prop where
  fW : f.W = W
  fH : f.H = H
  W1 : 1 ≤ W
  W2 : W ≤ 16
  H1 : 1 ≤ H
  H2 : H ≤ 16
  rows : R = (List.range H).map (rowL f.s W)
  len : ∀ r ∈ R, r.length = W
  free : ∀ r ∈ R, (10 : UInt8) ∉ r
  kinds : ∀ r ∈ R, ∀ i, i < r.length → kdS (mkB r) i ≠ 0
  flat : mkB R.flatten = f.s
theorem fRows {f : Flr} (r : RightP f) : ∃ W H R, FRows f W H R := by
  have hW := Int.toNat_of_nonneg (show 0 ≤ f.W from by have := r.w1; omega)
  have hH := Int.toNat_of_nonneg (show 0 ≤ f.H from by have := r.h1; omega)
  have hs : f.s.size = f.H.toNat * f.W.toNat := by
    have := r.len
    rw [← hW, ← hH, Int.mul_comm] at this
    exact_mod_cast this
  have hl : f.s.data.toList.length = f.H.toNat * f.W.toNat := by rw [← Lib.size_eq]; exact hs
  have hel : ∀ y, y < f.H.toNat → (rowL f.s f.W.toNat y).length = f.W.toNat := by
    intro y hy
    unfold rowL
    rw [List.length_take, List.length_drop, hl]
    have h1 : (y + 1) * f.W.toNat ≤ f.H.toNat * f.W.toNat := Nat.mul_le_mul_right _ hy
    rw [Nat.add_mul] at h1
    omega
  have hget : ∀ (y i : Nat) (c : UInt8), (rowL f.s f.W.toNat y)[i]? = some c → f.s.data.toList[y * f.W.toNat + i]? = some c := by
    intro y i c h
    unfold rowL at h
    rw [List.getElem?_take] at h
    split at h
    · rwa [List.getElem?_drop] at h
    · cases h
  have hkd : ∀ (y i : Nat) (c : UInt8), (rowL f.s f.W.toNat y)[i]? = some c → kindB c.toNat ≠ 0 := by
    intro y i c h
    obtain ⟨h1, h2⟩ := bt_list (hget y i c h)
    have := r.kinds _ h1
    unfold kdS at this
    rwa [h2] at this
  refine ⟨f.W.toNat, f.H.toNat, _, hW.symm, hH.symm, by have := r.w1; omega, by have := r.w2; omega, by have := r.h1; omega, by have := r.h2; omega, rfl, fun x hx => ?_, fun x hx => ?_, fun x hx i hi => ?_, ?_⟩
  · obtain ⟨y, hy, rfl⟩ := List.mem_map.1 hx
    exact hel y (List.mem_range.1 hy)
  · obtain ⟨y, hy, rfl⟩ := List.mem_map.1 hx
    intro hm
    obtain ⟨i, hi⟩ := List.getElem?_of_mem hm
    exact hkd y i 10 hi rfl
  · obtain ⟨y, hy, rfl⟩ := List.mem_map.1 hx
    unfold kdS
    rw [bt_mkB _ _ hi]
    exact hkd y i _ (List.getElem?_eq_getElem hi)
  · have := chunks f.s.data.toList f.W.toNat f.H.toNat
    rw [List.take_of_length_le (by rw [hl]; exact Nat.le_refl _)] at this
    show mkB ((List.range f.H.toNat).map (rowL f.s f.W.toNat)).flatten = f.s
    rw [show (List.range f.H.toNat).map (rowL f.s f.W.toNat) = (List.range f.H.toNat).map fun y => (f.s.data.toList.drop (y * f.W.toNat)).take f.W.toNat from rfl, this, mkB_data]
theorem rowsB_text {f : Flr} {W H : Nat} {R : List (List UInt8)} (fr : FRows f W H R) : rowsB (mkB (textTo f.s W H)) = R.map mkB := by
  unfold rowsB
  have h := pcs_rows R fr.free
  rw [mkB_list, textTo_map, ← fr.rows, rowsL_of (L := R) (cur := []) h, if_pos rfl]
theorem map_mkB_list (R : List (List UInt8)) : (R.map mkB).map (·.data.toList) = R := by
  rw [List.map_map]
  have : ((fun x : ByteArray => x.data.toList) ∘ mkB) = id := by funext x; exact mkB_list x
  rw [this, List.map_id]
theorem joinB_map (R : List (List UInt8)) : joinB (R.map mkB) = mkB R.flatten := by unfold joinB; rw [map_mkB_list]
/-- A right floor's text is parsed as that floor. -/
theorem parse_text {f : Flr} (hb : rightB f = true) : parseP (textP f) = (f, 0, 0) := by
  obtain ⟨W, H, R, fr⟩ := fRows (rightB_iff.1 hb)
  have ht : textP f = mkB (textTo f.s W H) := by
    unfold textP; rw [if_pos hb, fr.fW, fr.fH]; simp
  have hRl : R.length = H := by rw [fr.rows]; simp
  have hR0 : ∃ r0, R[0]? = some r0 := ⟨_, List.getElem?_eq_getElem (by rw [hRl]; exact fr.H1)⟩
  obtain ⟨r0, hr0⟩ := hR0
  have hlen0 : r0.length = W := fr.len r0 (List.mem_of_getElem? hr0)
  have hm0 : (R.map mkB)[0]? = some (mkB r0) := by rw [List.getElem?_map, hr0]; rfl
  have hbad : badRow (R.map mkB) = none := by
    refine badRow_none hm0 fun i r hi hr => ?_
    rw [List.getElem?_map] at hr
    cases hq : R[i]? with
    | none => rw [hq] at hr; simp at hr
    | some q =>
      rw [hq] at hr; simp at hr; subst hr
      have hmem := List.mem_of_getElem? hq
      have hql := fr.len q hmem
      have h1 := fr.W1; have h2 := fr.W2; have h3 := fr.H2
      refine mayB_iff.2 ⟨by simp at hi; omega, by rw [mkB_size]; omega, by rw [mkB_size]; omega, by rw [mkB_size, mkB_size]; omega, fun j hj => fr.kinds q hmem j (by rw [mkB_size] at hj; exact hj)⟩
  unfold parseP
  rw [ht, rowsB_text fr, hbad]
  simp only
  have hg : (R.map mkB).getD 0 ByteArray.empty = mkB r0 := by simp [hr0]
  rw [hg, mkB_size, hlen0, List.length_map, hRl, joinB_map, fr.flat]
  have hf : f = ⟨W, H, f.s⟩ := by
    obtain ⟨a, b, s⟩ := f
    have h1 := fr.fW; have h2 := fr.fH
    simp only at h1 h2
    rw [h1, h2]
  rw [← hf, if_pos hb]
theorem pcs_inv : ∀ (l : List UInt8) (L : List (List UInt8)) (cur : List UInt8), pcs l = L ++ [cur] → l = L.flatMap (· ++ [10]) ++ cur := by
  intro l
  induction l with
  | nil =>
    intro L cur h
    rcases L with _ | ⟨x, L⟩
    · simp [pcs] at h; subst h; rfl
    · simp [pcs] at h
  | cons c l ih =>
    intro L cur h
    rw [pcs] at h
    split at h
    · rename_i e
      rcases L with _ | ⟨x, L⟩
      · simp at h; exact absurd h.2 (pcs_ne l)
      · simp at h
        obtain ⟨h1, h2⟩ := h
        subst h1
        rw [List.flatMap_cons, List.nil_append, List.append_assoc, ← ih L cur h2, e]; rfl
    · rcases hp : pcs l with _ | ⟨p, ps⟩
      · exact absurd hp (pcs_ne l)
      · rw [hp] at h
        simp only at h
        rcases L with _ | ⟨x, L⟩
        · simp at h
          obtain ⟨rfl, rfl⟩ := h
          have := ih [] p hp
          simp at this ⊢; exact this
        · simp at h
          obtain ⟨rfl, h2⟩ := h
          have := ih (p :: L) cur (by rw [hp, h2]; rfl)
          rw [List.flatMap_cons] at this ⊢
          rw [this]; simp
theorem rowL_join {R : List (List UInt8)} {W : Nat} (h : ∀ r ∈ R, r.length = W) : ∀ y, y < R.length → (R.flatten.drop (y * W)).take W = R.getD y [] := by
  induction R with
  | nil => intro y hy; simp at hy
  | cons r R ih =>
    intro y hy
    have hr : r.length = W := h r (by simp)
    rcases y with _ | y
    · rw [Nat.zero_mul, List.drop_zero, List.flatten_cons, ← hr, List.take_left]; simp
    · rw [List.flatten_cons, Nat.add_mul, Nat.one_mul, Nat.add_comm, List.drop_append, hr, Nat.add_sub_cancel_left, List.drop_eq_nil_of_le (by rw [hr]; omega), List.nil_append, ih (fun x hx => h x (by simp [hx])) y (by simpa using hy)]
      simp
theorem flatMap_getD (R : List (List UInt8)) : ∀ k, k ≤ R.length → (List.range k).flatMap (fun y => R.getD y [] ++ [10]) = (R.take k).flatMap (· ++ [10]) := by
  intro k
  induction k with
  | zero => intro _; rfl
  | succ k ih =>
    intro hk
    rw [List.range_succ, List.flatMap_append, ih (by omega), List.take_add_one, List.getElem?_eq_getElem (show k < R.length by omega), List.flatMap_append]
    simp [List.getElem?_eq_getElem (show k < R.length by omega)]
/-- A text that is parsed is the floor's text, but for a newline at its end. -/
theorem text_parse {s : ByteArray} {f : Flr} {y : Nat} (h : parseP s = (f, y, 0)) : rightB f = true ∧ (textP f = s ∨ textP f = s ++ ⟨#[10]⟩) := by
  have hb : rightB f = true := by have := parseP_ok (s := s) (by rw [h]); rwa [h] at this
  refine ⟨hb, ?_⟩
  unfold parseP at h
  cases hbad : badRow (rowsB s) with
  | some z => rw [hbad] at h; simp at h
  | none =>
    rw [hbad] at h
    simp only at h
    split at h
    · simp only [Prod.mk.injEq] at h
      obtain ⟨hf, _⟩ := h
      obtain ⟨R, hR⟩ : ∃ R, R = rowsL s.data.toList := ⟨_, rfl⟩
      have hrows : rowsB s = R.map mkB := by unfold rowsB; rw [hR]
      have hfW : f.W = (((rowsB s).getD 0 ByteArray.empty).size : Int) := by rw [← hf]
      have hfH : f.H = ((rowsB s).length : Int) := by rw [← hf]
      have hfs : f.s = joinB (rowsB s) := by rw [← hf]
      rw [hrows] at hfW hfH hfs hbad
      rw [joinB_map] at hfs
      rw [List.length_map] at hfH
      have hH1 := (rightB_iff.1 hb).h1
      have hRl : 0 < R.length := by omega
      have hr0 : R[0]? = some R[0] := List.getElem?_eq_getElem hRl
      have hg : (R.map mkB).getD 0 ByteArray.empty = mkB R[0] := by simp [hRl]
      rw [hg, mkB_size] at hfW
      have hall : ∀ r ∈ R, r.length = R[0].length := by
        intro r hr
        obtain ⟨i, hi⟩ := List.getElem?_of_mem hr
        have hil := (List.getElem?_eq_some_iff.1 hi).1
        unfold badRow at hbad
        rw [List.find?_eq_none] at hbad
        have h1 := hbad i (by simpa using hil)
        have h2 : (R.map mkB).getD i ByteArray.empty = mkB r := by simp [hi]
        rw [h2, hg] at h1
        have h3 : mayB (mkB r) (mkB R[0]) i = true := by simpa using h1
        have := (mayB_iff.1 h3).2.2.2.1
        rwa [mkB_size, mkB_size] at this
      have ht : textP f = mkB (R.flatMap (· ++ [10])) := by
        unfold textP
        rw [if_pos hb, hfW, hfH, hfs]
        congr 1
        unfold textTo rowL
        rw [Int.toNat_natCast, Int.toNat_natCast, mkB_list]
        have e1 : (List.range R.length).flatMap (fun y => (R.flatten.drop (y * R[0].length)).take R[0].length ++ [10]) = (List.range R.length).flatMap (fun y => R.getD y [] ++ [10]) := by
          rw [List.flatMap_def, List.flatMap_def]
          congr 1
          apply List.map_congr_left
          intro y hy
          rw [rowL_join hall y (List.mem_range.1 hy)]
        rw [e1, flatMap_getD R R.length (Nat.le_refl _), List.take_length]
      obtain ⟨L, cur, hpc⟩ : ∃ L cur, pcs s.data.toList = L ++ [cur] := ⟨_, _, (List.dropLast_concat_getLast (pcs_ne _)).symm⟩
      have hinv := pcs_inv _ _ _ hpc
      have hRL := rowsL_of hpc
      rw [← hR] at hRL
      by_cases hc : cur = []
      · left
        rw [if_pos hc] at hRL
        rw [ht, hRL]
        rw [hc, List.append_nil] at hinv
        rw [← hinv, mkB_data]
      · right
        rw [if_neg hc] at hRL
        rw [ht, hRL, List.flatMap_append]
        have e2 : [cur].flatMap (· ++ [10]) = cur ++ [10] := by simp
        have e3 : ∀ a b : List UInt8, mkB (a ++ b) = mkB a ++ mkB b := by intro a b; unfold mkB; rw [ByteArray.mk_append_mk]
        rw [e2, ← List.append_assoc, ← hinv, e3, mkB_data]; rfl
    · simp at h
end Go.Proofs.YtolkkinophklcaaDoor
