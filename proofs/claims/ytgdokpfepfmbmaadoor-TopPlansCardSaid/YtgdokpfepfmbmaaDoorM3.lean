/- Ways through time, plain: how much a search can find; when a cell is reached first. No function of the program; Floors, plain: cells, kinds, what is beside, what may be. No function of the program; Floors, plain: what hangs together, docks, which floors may be. No function of the program; Floors, plain: how docks are found. No function of the program; Slices of ints; carfaxref03.SameInts; What all laws here answer; two facts on the program; floor.kind, floor.beside; floor.beside; floor.docks; Floors, plain: a search through the lanes. No function of the program; Maps with int keys: delete, len; maps to bool as sets; floor.joined. No condition. -/
import Derived.Test.YtgdokpfepfmbmaaDoorM2
import Derived.Test.YtgdokpfepfmbmaaDoorM1
import Derived.Deep.LoopGhost

namespace Go.Proofs.YtgdokpfepfmbmaaDoor
set_option linter.unusedVariables false
set_option linter.unusedSimpArgs false

/-! ### How much there can be -/
theorem code_inj {m u v r s : Nat} (hr : r < m) (hs : s < m) (h : m * u + r = m * v + s) : u = v ∧ r = s := by
  have hm : 0 < m := by omega
  have h1 : (m * u + r) / m = u := by rw [Nat.mul_add_div hm, Nat.div_eq_of_lt hr, Nat.add_zero]
  have h2 : (m * v + s) / m = v := by rw [Nat.mul_add_div hm, Nat.div_eq_of_lt hs, Nat.add_zero]
  have : u = v := by rw [← h1, ← h2, h]
  subst this
  exact ⟨rfl, by omega⟩
def widx (T : Int → List (Int × Int)) (x : Sty) : Nat := (freeL (T x.c)).findIdx fun w => decide (w.2 = x.b)
def codeS (T : Int → List (Int × Int)) (W A : Nat) (s0 : Int) (x : Sty) : Nat := (A + 1) * ((W + 1) * x.c + widx T x) + (x.a - s0).toNat
section
variable {T : Int → List (Int × Int)} {st : Nat → List Nat} {fr n W A : Nat} {s0 L : Int} {all S : List Sty} {M : List Nat}
theorem widx_le (x : Sty) (hW : (freeL (T x.c)).length ≤ W) : widx T x ≤ W := Nat.le_trans List.findIdx_le_length hW
theorem widx_b {x y : Sty} (hx : Gd T st fr n s0 L x) (hy : Gd T st fr n s0 L y) (hc : x.c = y.c) (h : widx T x = widx T y) : x.b = y.b := by
  have key : ∀ z : Sty, Gd T st fr n s0 L z → widx T z < (freeL (T z.c)).length → (freeL (T z.c))[widx T z]?.map (·.2) = some z.b := fun z hz hl => by
    have := List.findIdx_getElem (xs := freeL (T z.c)) (p := fun (w : Int × Int) => decide (w.2 = z.b)) (w := hl)
    have e : (freeL (T z.c))[widx T z].2 = z.b := of_decide_eq_true this
    rw [List.getElem?_eq_getElem hl, Option.map_some, e]
  by_cases hl : widx T x < (freeL (T x.c)).length
  · have h1 := key x hx hl
    have h2 := key y hy (by rw [← h, ← hc]; exact hl)
    rw [← h, ← hc, h1] at h2
    exact Option.some.inj h2
  · have no : ∀ z : Sty, Gd T st fr n s0 L z → ¬ widx T z < (freeL (T z.c)).length → z = fstS T fr s0 := fun z hz hl => by
      rcases hz.wn with e | ⟨w, hw, e⟩
      · exact e
      · exact absurd (List.findIdx_lt_length_of_exists ⟨w, hw, by simpa using e⟩) hl
    rw [no x hx hl, no y hy (by rw [← h, ← hc]; exact hl)]
theorem code_sep {x y : Sty} (hx : Gd T st fr n s0 L x) (hy : Gd T st fr n s0 L y) (hL : L = s0 + A) (hWx : (freeL (T x.c)).length ≤ W) (hWy : (freeL (T y.c)).length ≤ W) (h : codeS T W A s0 x = codeS T W A s0 y) : x.c = y.c ∧ x.b = y.b ∧ x.a = y.a := by
  have a1 := hx.a0; have a2 := hx.aL; have a3 := hy.a0; have a4 := hy.aL
  obtain ⟨h1, h2⟩ := code_inj (by omega) (by omega) h
  have w1 := widx_le x hWx; have w2 := widx_le y hWy
  obtain ⟨h3, h4⟩ := code_inj (by omega) (by omega) h1
  exact ⟨h3, widx_b hx hy h3 h4, by omega⟩
theorem code_lt {x : Sty} (hx : Gd T st fr n s0 L x) (hL : L = s0 + A) (hW : (freeL (T x.c)).length ≤ W) : codeS T W A s0 x < (A + 1) * ((W + 1) * n) := by
  have a1 := hx.a0; have a2 := hx.aL; have w1 := widx_le x hW; have c1 := hx.cn
  unfold codeS
  have h1 : (W + 1) * x.c + widx T x + 1 ≤ (W + 1) * n := by
    have : (W + 1) * (x.c + 1) ≤ (W + 1) * n := Nat.mul_le_mul_left _ c1
    rw [Nat.mul_add] at this; omega
  have h2 : (A + 1) * ((W + 1) * x.c + widx T x + 1) ≤ (A + 1) * ((W + 1) * n) := Nat.mul_le_mul_left _ h1
  rw [Nat.mul_add] at h2
  omega
/-- So many stays can be looked at, at most. -/
theorem SpI.few (h : SpI T st fr n s0 L all S M) (hL : L = s0 + A) (hW : ∀ c, c < n → (freeL (T (c : Int))).length ≤ W) : S.length ≤ (A + 1) * ((W + 1) * n) := by
  have hg : ∀ x ∈ S, Gd T st fr n s0 L x := fun x hx => h.gd x (h.sub x hx)
  have nd : (S.map (codeS T W A s0)).Nodup := by
    rw [List.nodup_iff_pairwise_ne, List.pairwise_map]
    refine h.new.imp_of_mem ?_
    intro x y hx hy hne e
    have := code_sep (hg x hx) (hg y hy) hL (hW _ (hg x hx).cn) (hW _ (hg y hy).cn) e
    exact hne ⟨this.1, this.2.1, by omega⟩
  have := List.Nodup.length_le_of_subset nd (l₂ := List.range ((A + 1) * ((W + 1) * n))) (fun c hc => by
    obtain ⟨x, hx, rfl⟩ := List.mem_map.1 hc
    rw [List.mem_range]
    exact code_lt (hg x hx) hL (hW _ (hg x hx).cn))
  simpa using this
theorem byC_len (x : Sty) (c : Nat) : (byC T x L c).length ≤ (freeL (T c)).length := List.length_filterMap_le _ _
theorem byL_len {x : Sty} (hW : ∀ c, c < n → (freeL (T (c : Int))).length ≤ W) (h4 : (st x.c).length ≤ 4) (hs : ∀ c ∈ st x.c, c < n) : (byL T st x L).length ≤ 4 * W := by
  have key : ∀ l : List Nat, (∀ c ∈ l, c < n) → (l.flatMap (byC T x L)).length ≤ l.length * W := by
    intro l
    induction l with
    | nil => intro _; simp
    | cons c l ih =>
      intro h
      rw [List.flatMap_cons, List.length_append, List.length_cons, Nat.add_mul, Nat.one_mul]
      have h1 := ih fun c hc => h c (List.mem_cons_of_mem _ hc)
      have h2 := Nat.le_trans (byC_len (L := L) x c) (hW c (h c List.mem_cons_self))
      omega
  exact Nat.le_trans (key _ hs) (Nat.mul_le_mul_right _ h4)

/-! ### When a cell is reached first -/
def IsSn (T : Int → List (Int × Int)) (st : Nat → List Nat) (fr : Nat) (s0 : Int) (A c : Nat) (v : Int) : Prop := (v = -1 ∧ ∀ k : Nat, k ≤ A → ¬ Rch T st fr s0 k c) ∨ ∃ k : Nat, k ≤ A ∧ v = s0 + k ∧ Rch T st fr s0 k c ∧ ∀ j : Nat, Rch T st fr s0 j c → k ≤ j
theorem IsSn.uniq {c : Nat} {v v' : Int} (h : IsSn T st fr s0 A c v) (g : IsSn T st fr s0 A c v') : v = v' := by
  rcases h with ⟨rfl, h⟩ | ⟨k, hk, rfl, h1, h2⟩ <;> rcases g with ⟨rfl, g⟩ | ⟨j, hj, rfl, g1, g2⟩
  · rfl
  · exact absurd g1 (h _ hj)
  · exact absurd h1 (g _ hk)
  · have := h2 _ g1; have := g2 _ h1; omega
theorem least_exN {p : Nat → Prop} : ∀ k, p k → ∃ m, p m ∧ ∀ j, p j → m ≤ j := by
  intro k
  induction k using Nat.strongRecOn with
  | _ k ih =>
    intro hk
    by_cases h : ∃ j, j < k ∧ p j
    · obtain ⟨j, hj, hp⟩ := h; exact ih j hj hp
    · exact ⟨k, hk, fun j hj => by
        rcases Nat.lt_or_ge j k with h1 | h1
        · exact absurd ⟨j, h1, hj⟩ h
        · exact h1⟩
theorem isSn_ex (T : Int → List (Int × Int)) (st : Nat → List Nat) (fr : Nat) (s0 : Int) (A c : Nat) : ∃ v, IsSn T st fr s0 A c v := by
  by_cases h : ∃ k, k ≤ A ∧ Rch T st fr s0 k c
  · obtain ⟨k, hk, hr⟩ := h
    obtain ⟨m, hm, hl⟩ := least_exN (p := fun k => Rch T st fr s0 k c) k hr
    exact ⟨s0 + m, .inr ⟨m, Nat.le_trans (hl k hr) hk, rfl, hm, hl⟩⟩
  · exact ⟨-1, .inl ⟨rfl, fun k hk hr => h ⟨k, hk, hr⟩⟩⟩
noncomputable def sn (T : Int → List (Int × Int)) (st : Nat → List Nat) (fr : Nat) (s0 : Int) (A c : Nat) : Int := Classical.choose (isSn_ex T st fr s0 A c)
theorem sn_is (T : Int → List (Int × Int)) (st : Nat → List Nat) (fr : Nat) (s0 : Int) (A c : Nat) : IsSn T st fr s0 A c (sn T st fr s0 A c) := Classical.choose_spec (isSn_ex T st fr s0 A c)
noncomputable def snL (T : Int → List (Int × Int)) (st : Nat → List Nat) (fr : Nat) (s0 : Int) (A n : Nat) : List Int := (List.range n).map fun c => sn T st fr s0 A c
theorem snL_len : (snL T st fr s0 A n).length = n := by simp [snL]
theorem snL_get {c : Nat} (h : c < n) : (snL T st fr s0 A n)[c]? = some (sn T st fr s0 A c) := by simp [snL, List.getElem?_range h]
theorem snL_take {k : Nat} (h : k < n) : (snL T st fr s0 A n).take (k + 1) = (snL T st fr s0 A n).take k ++ [sn T st fr s0 A k] := by
  rw [List.take_add_one, snL_get h]; rfl
/-- The first of some stays. -/
def mnA (l : List Sty) : Int := l.foldl (fun f x => if f < 0 ∨ x.a < f then x.a else f) (-1)
theorem mnA_snoc (l : List Sty) (k : Nat) (x : Sty) (h : l[k]? = some x) : mnA (l.take (k + 1)) = if mnA (l.take k) < 0 ∨ x.a < mnA (l.take k) then x.a else mnA (l.take k) := by
  unfold mnA; rw [List.take_add_one, h, List.foldl_append]; rfl
theorem mnA_spec {l : List Sty} (h0 : ∀ x ∈ l, 0 ≤ x.a) : ∀ k, k ≤ l.length → (mnA (l.take k) = -1 ∧ k = 0) ∨ ((∃ x ∈ l.take k, x.a = mnA (l.take k)) ∧ ∀ x ∈ l.take k, mnA (l.take k) ≤ x.a) := by
  intro k
  induction k with
  | zero => intro _; exact .inl ⟨by simp [mnA], rfl⟩
  | succ k ih =>
    intro hk
    obtain ⟨x, hx⟩ : ∃ x, l[k]? = some x := ⟨_, List.getElem?_eq_getElem (by omega)⟩
    have hm := List.mem_of_getElem? hx
    rw [mnA_snoc l k x hx]
    have e : l.take (k + 1) = l.take k ++ [x] := by rw [List.take_add_one, hx]; rfl
    rw [e]
    right
    rcases ih (by omega) with ⟨h1, h2⟩ | ⟨⟨y, hy, h1⟩, h2⟩
    · rw [h1, if_pos (.inl (by omega))]
      subst h2
      exact ⟨⟨x, by simp, rfl⟩, fun y hy => by simp at hy; subst hy; exact Int.le_refl _⟩
    · have hy0 := h0 y (List.mem_of_mem_take hy)
      by_cases hc : mnA (l.take k) < 0 ∨ x.a < mnA (l.take k)
      · rw [if_pos hc]
        refine ⟨⟨x, by simp, rfl⟩, fun z hz => ?_⟩
        rcases List.mem_append.1 hz with h3 | h3
        · have := h2 z h3; omega
        · simp at h3; subst h3; exact Int.le_refl _
      · rw [if_neg hc]
        refine ⟨⟨y, List.mem_append_left _ hy, h1⟩, fun z hz => ?_⟩
        rcases List.mem_append.1 hz with h3 | h3
        · exact h2 z h3
        · simp at h3; subst h3; omega
theorem mnA_sn (hs0 : 0 ≤ s0) (hL : L = s0 + A) (h : SpI T st fr n s0 L all S []) (hc : Cl T st L all S) (hT : WFT T) (c : Nat) : mnA (S.filter fun x => decide (x.c = c)) = sn T st fr s0 A c := by
  refine IsSn.uniq (T := T) (st := st) (fr := fr) (s0 := s0) (A := A) (c := c) ?_ (sn_is _ _ _ _ _ _)
  have hg : ∀ x ∈ S, Gd T st fr n s0 L x := fun x hx => h.gd x (h.sub x hx)
  have hf : ∀ x ∈ S.filter (fun x => decide (x.c = c)), x ∈ S ∧ x.c = c := fun x hx => by
    have := List.mem_filter.1 hx; exact ⟨this.1, by simpa using this.2⟩
  have sp := mnA_spec (l := S.filter fun x => decide (x.c = c)) (fun x hx => by have := (hg x (hf x hx).1).a0; omega) _ (Nat.le_refl _)
  rw [List.take_length] at sp
  rcases sp with ⟨h1, h2⟩ | ⟨⟨x, hx, h1⟩, h2⟩
  · refine .inl ⟨h1, fun k hk hr => ?_⟩
    obtain ⟨x, hx, e, _⟩ := (h.done hc hT k c (by omega)).1 hr
    have : x ∈ S.filter fun x => decide (x.c = c) := List.mem_filter.2 ⟨hx, by simpa using e⟩
    rw [List.eq_nil_of_length_eq_zero h2] at this
    simp at this
  · obtain ⟨h3, h4⟩ := hf x hx
    have g := hg x h3
    have ga := g.a0; have gl := g.aL; have gb := g.ab
    refine .inr ⟨(x.a - s0).toNat, by omega, by omega, ?_, fun j hj => ?_⟩
    · have := g.rch (x.a - s0).toNat (by omega) (by omega)
      rwa [h4] at this
    · rcases Nat.lt_or_ge A j with hA | hA
      · omega
      · obtain ⟨y, hy, e, h5, h6⟩ := (h.done hc hT j c (by omega)).1 hj
        have := h2 y (List.mem_filter.2 ⟨hy, by simpa using e⟩)
        omega
end
end Go.Proofs.YtgdokpfepfmbmaaDoor

namespace Go.Proofs.YtgdokpfepfmbmaaDoor
set_option linter.unusedVariables false
set_option linter.unusedSimpArgs false
open Go.RowKit

/-- A string's byte. -/
def bt (s : ByteArray) (i : Nat) : Nat := if h : i < s.size then (s[i]'h).toNat else 0
theorem bt_lt (s : ByteArray) (i : Nat) : bt s i < 256 := by unfold bt; split; exact UInt8.toNat_lt _; decide
theorem bt_at (s : ByteArray) (i : Nat) (h : i < s.size) : (s[i]'h).toNat = bt s i := by unfold bt; rw [dif_pos h]
theorem bt_atI (s : ByteArray) (i : Nat) (h : (i : Int).toNat < s.size) : (s[(i : Int).toNat]'h).toNat = bt s i := bt_at s i h

structure Flr where
  W : Int
  H : Int
  s : ByteArray
def Flr.val (f : Flr) : Value := .agg #[.int .i64 f.W, .int .i64 f.H, .string f.s]
def kindB (c : Nat) : Nat := if c = 35 then 1 else if 97 ≤ c ∧ c ≤ 122 then 2 else if 48 ≤ c ∧ c < 56 then 3 else 0
theorem kindB_le (c : Nat) : kindB c ≤ 3 := by unfold kindB; split; decide; split; decide; split <;> decide
def Flr.kd (f : Flr) (i : Nat) : Nat := kindB (bt f.s i)

/-- What is beside a cell: above, right, below, left. -/
def besideP (W H c : Nat) : List Nat := (if 0 < c / W then [c - W] else []) ++ (if c % W + 1 < W then [c + 1] else []) ++ (if c / W + 1 < H then [c + W] else []) ++ (if 0 < c % W then [c - 1] else [])
def ints (l : List Nat) : List Int := l.map fun (x : Nat) => (x : Int)
/-- The k-th direction's. -/
def bsPart (W H c : Nat) : Nat → List Nat
  | 0 => if 0 < c / W then [c - W] else []
  | 1 => if c % W + 1 < W then [c + 1] else []
  | 2 => if c / W + 1 < H then [c + W] else []
  | 3 => if 0 < c % W then [c - 1] else []
  | _ => []
def bsA (W H c k : Nat) : List Nat := (List.range k).flatMap (bsPart W H c)
theorem bsA_succ (W H c k : Nat) : bsA W H c (k + 1) = bsA W H c k ++ bsPart W H c k := by unfold bsA; rw [List.range_succ, List.flatMap_append]; simp
theorem bsA_four (W H c : Nat) : bsA W H c 4 = besideP W H c := by
  rw [bsA_succ, bsA_succ, bsA_succ, bsA_succ]
  simp [bsA, bsPart, besideP]
theorem bsPart_len (W H c k : Nat) : (bsPart W H c k).length ≤ 1 := by unfold bsPart; split <;> first | (split <;> simp) | simp
theorem bsA_len (W H c k : Nat) : (bsA W H c k).length ≤ k := by
  induction k with
  | zero => simp [bsA]
  | succ k ih => rw [bsA_succ, List.length_append]; have := bsPart_len W H c k; omega
theorem ints_len (l : List Nat) : (ints l).length = l.length := by simp [ints]
theorem ints_app (a b : List Nat) : ints (a ++ b) = ints a ++ ints b := by simp [ints]
end Go.Proofs.YtgdokpfepfmbmaaDoor

namespace Go.Proofs.YtgdokpfepfmbmaaDoor
set_option linter.unusedVariables false
set_option linter.unusedSimpArgs false
open Go.RowKit

def kdS (s : ByteArray) (i : Nat) : Nat := kindB (bt s i)
def laneI (s : ByteArray) (i : Nat) : Prop := i < s.size ∧ kdS s i = 2
instance (s : ByteArray) (i : Nat) : Decidable (laneI s i) := inferInstanceAs (Decidable (_ ∧ _))
theorem beside_mem {W H c j : Nat} : j ∈ besideP W H c ↔ (0 < c / W ∧ j = c - W) ∨ (c % W + 1 < W ∧ j = c + 1) ∨ (c / W + 1 < H ∧ j = c + W) ∨ (0 < c % W ∧ j = c - 1) := by
  unfold besideP
  simp only [List.mem_append]
  constructor
  · rintro (((h | h) | h) | h)
    all_goals
      split at h
      · simp at h; simp [*]
      · simp at h
  · rintro (⟨h, rfl⟩ | ⟨h, rfl⟩ | ⟨h, rfl⟩ | ⟨h, rfl⟩)
    · exact .inl (.inl (.inl (by simp [h])))
    · exact .inl (.inl (.inr (by simp [h])))
    · exact .inl (.inr (by simp [h]))
    · exact .inr (by simp [h])
theorem beside_lt {W H c j : Nat} (hW : 1 ≤ W) (hc : c < W * H) (h : j ∈ besideP W H c) : j < W * H := by
  have hm := Nat.div_add_mod c W
  have hl := Nat.mod_lt c hW
  rcases beside_mem.1 h with ⟨_, rfl⟩ | ⟨h1, rfl⟩ | ⟨h1, rfl⟩ | ⟨_, rfl⟩
  · omega
  · have : c / W < H := Nat.div_lt_of_lt_mul hc
    have h2 : W * (c / W + 1) ≤ W * H := Nat.mul_le_mul_left W this
    rw [Nat.mul_add] at h2
    omega
  · have h2 : W * (c / W + 1 + 1) ≤ W * H := Nat.mul_le_mul_left W h1
    rw [Nat.mul_add, Nat.mul_add] at h2
    omega
  · omega
theorem beside_symm {W H c j : Nat} (hW : 1 ≤ W) (hc : c < W * H) (h : j ∈ besideP W H c) : c ∈ besideP W H j := by
  have hm := Nat.div_add_mod c W
  have hl := Nat.mod_lt c hW
  have hdc : c / W < H := Nat.div_lt_of_lt_mul hc
  rw [beside_mem]
  rcases beside_mem.1 h with ⟨h1, rfl⟩ | ⟨h1, rfl⟩ | ⟨h1, rfl⟩ | ⟨h1, rfl⟩
  · have h2 : W * 1 ≤ W * (c / W) := Nat.mul_le_mul_left W h1
    have h3 : (c - W) / W + 1 = c / W := by
      have : c = (c - W) + W := by omega
      conv => rhs; rw [this, Nat.add_div_right _ hW]
    exact .inr (.inr (.inl ⟨by omega, by omega⟩))
  · have h3 : (c + 1) % W = c % W + 1 := by
      rw [Nat.add_mod, Nat.mod_eq_of_lt (a := c % W + 1 % W)]
      · by_cases h : W = 1
        · omega
        · rw [Nat.mod_eq_of_lt (by omega : 1 < W)]
      · by_cases h : W = 1
        · omega
        · rw [Nat.mod_eq_of_lt (by omega : 1 < W)]; omega
    exact .inr (.inr (.inr ⟨by omega, by omega⟩))
  · exact .inl ⟨Nat.div_pos (Nat.le_add_left W c) hW, by omega⟩
  · have h3 : (c - 1) % W + 1 = c % W := by
      have e : c - 1 = W * (c / W) + (c % W - 1) := by omega
      rw [e, Nat.mul_add_mod, Nat.mod_eq_of_lt (by omega)]; omega
    exact .inr (.inl ⟨by omega, by omega⟩)
theorem beside_ne {W H c : Nat} (hW : 1 ≤ W) : c ∉ besideP W H c := by
  intro h
  have hm := Nat.div_add_mod c W
  rcases beside_mem.1 h with ⟨h1, e⟩ | ⟨h1, e⟩ | ⟨h1, e⟩ | ⟨h1, e⟩
  · have h2 : W * 1 ≤ W * (c / W) := Nat.mul_le_mul_left W h1
    omega
  · omega
  · omega
  · have := Nat.mod_le c W; omega

/-- j is reached from i, through lanes. -/
inductive Conn (W H : Nat) (s : ByteArray) (i : Nat) : Nat → Prop
  | refl : Conn W H s i i
  | step {j k : Nat} : Conn W H s i j → k ∈ besideP W H j → laneI s k → Conn W H s i k
section
variable {W H i j k : Nat} {s : ByteArray}
theorem Conn.trans (h : Conn W H s i j) (g : Conn W H s j k) : Conn W H s i k := by
  induction g with
  | refl => exact h
  | step _ h1 h2 ih => exact .step ih h1 h2
theorem Conn.lane (h : Conn W H s i j) (hi : laneI s i) : laneI s j := by cases h with | refl => exact hi | step _ _ h => exact h
theorem Conn.symm (hW : 1 ≤ W) (hl : s.size = W * H) (h : Conn W H s i j) (hi : laneI s i) : Conn W H s j i := by
  induction h with
  | refl => exact .refl
  | step h0 h1 h2 ih =>
    have hj := h0.lane hi
    exact (Conn.step .refl (beside_symm hW (by rw [← hl]; exact hj.1) h1) hj).trans ih
/-- Whatever holds where the way begins, and goes on to lanes beside, holds where it comes. -/
theorem Conn.closed {p : Nat → Prop} (h : Conn W H s i j) (h0 : p i) (hs : ∀ j k, p j → k ∈ besideP W H j → laneI s k → p k) : p j := by
  induction h with
  | refl => exact h0
  | step _ h1 h2 ih => exact hs _ _ ih h1 h2
end
def joinedP (W H : Nat) (s : ByteArray) : Prop := (∃ i, laneI s i) ∧ ∀ i j, laneI s i → laneI s j → Conn W H s i j
theorem joined_one {W H l : Nat} {s : ByteArray} (hW : 1 ≤ W) (hs : s.size = W * H) (hl : laneI s l) : joinedP W H s ↔ ∀ j, laneI s j → Conn W H s l j :=
  ⟨fun h j hj => h.2 l j hl hj, fun h => ⟨⟨l, hl⟩, fun i j hi hj => ((h i hi).symm hW hs hl).trans (h j hj)⟩⟩

/-! ### Docks -/
structure DocksL (s : ByteArray) (ds : List Nat) : Prop where
  ne : ds ≠ []
  at_ : ∀ r i, ds[r]? = some i → i < s.size ∧ kdS s i = 3 ∧ bt s i = 48 + r
  all : ∀ i, i < s.size → kdS s i = 3 → ds[bt s i - 48]? = some i
theorem kd_dock {c : Nat} (h : kindB c = 3) : 48 ≤ c ∧ c < 56 := by
  unfold kindB at h
  split at h
  · cases h
  · split at h
    · cases h
    · split at h
      · assumption
      · cases h
theorem kd_lane {c : Nat} (h : kindB c = 2) : 97 ≤ c ∧ c ≤ 122 := by
  unfold kindB at h
  split at h
  · cases h
  · split at h
    · assumption
    · split at h <;> cases h
theorem kd_wall {c : Nat} (h : kindB c = 1) : c = 35 := by
  unfold kindB at h
  split at h
  · assumption
  · split at h
    · cases h
    · split at h <;> cases h
theorem DocksL.uniq {s : ByteArray} {a b : List Nat} (ha : DocksL s a) (hb : DocksL s b) : a = b := by
  have key : ∀ {a b : List Nat}, DocksL s a → DocksL s b → ∀ r i : Nat, a[r]? = some i → b[r]? = some i := by
    intro a b ha hb r i h
    obtain ⟨h1, h2, h3⟩ := ha.at_ r i h
    have := hb.all i h1 h2
    rwa [h3, Nat.add_sub_cancel_left] at this
  apply List.ext_getElem?
  intro r
  cases h : a[r]? with
  | some i => exact (key ha hb r i h).symm
  | none =>
    cases h' : b[r]? with
    | none => rfl
    | some i => rw [key hb ha r i h'] at h; cases h
theorem DocksL.len {s : ByteArray} {ds : List Nat} (h : DocksL s ds) : ds.length ≤ 8 := by
  rcases Nat.lt_or_ge 8 ds.length with hl | hl
  · obtain ⟨h1, h2, h3⟩ := h.at_ 8 _ (List.getElem?_eq_getElem hl)
    have := kd_dock h2
    unfold kdS at h2
    omega
  · exact hl

/-- Which floors may be. -/
structure RightP (f : Flr) : Prop where
  w1 : 1 ≤ f.W
  w2 : f.W ≤ 16
  h1 : 1 ≤ f.H
  h2 : f.H ≤ 16
  len : (f.s.size : Int) = f.W * f.H
  kinds : ∀ i, i < f.s.size → kdS f.s i ≠ 0
  docks : ∃ ds, DocksL f.s ds
  join : joinedP f.W.toNat f.H.toNat f.s
  by_ : ∀ i, i < f.s.size → kdS f.s i = 3 → ∃ j ∈ besideP f.W.toNat f.H.toNat i, laneI f.s j
open Classical in
noncomputable def rightB (f : Flr) : Bool := decide (RightP f)
open Classical in
theorem rightB_t {f : Flr} (h : RightP f) : rightB f = true := by unfold rightB; exact decide_eq_true h
open Classical in
theorem rightB_f {f : Flr} (h : ¬ RightP f) : rightB f = false := by unfold rightB; exact decide_eq_false h
theorem rightB_iff {f : Flr} : rightB f = true ↔ RightP f := by unfold rightB; simp
end Go.Proofs.YtgdokpfepfmbmaaDoor

namespace Go.Proofs.YtgdokpfepfmbmaaDoor
set_option linter.unusedVariables false
set_option linter.unusedSimpArgs false
open Go.RowKit

/-- Behind k cells: a: at its number, where each dock is (and one more); n: how many. -/
structure DkI (s : ByteArray) (k : Nat) (a : List Nat) (n : Nat) : Prop where
  len : a.length = 8
  sound : ∀ r i : Nat, a[r]? = some (i + 1) → i < k ∧ kdS s i = 3 ∧ bt s i = 48 + r
  full : ∀ i, i < k → kdS s i = 3 → a[bt s i - 48]? = some (i + 1)
  cnt : n = (a.filter fun x => x != 0).length
theorem filter_set (a : List Nat) : ∀ (r x : Nat), a[r]? = some 0 → x ≠ 0 → ((a.set r x).filter fun x => x != 0).length = (a.filter fun x => x != 0).length + 1 := by
  induction a with
  | nil => intro r x h; simp at h
  | cons y ys ih =>
    intro r x h hx
    rcases r with _ | r
    · simp at h; subst h; simp [hx]
    · simp at h
      have := ih r x h hx
      simp only [List.set_cons_succ, List.filter_cons]
      split <;> simp [this]
section
variable {s : ByteArray} {k n : Nat} {a : List Nat}
theorem DkI.start (s : ByteArray) : DkI s 0 (List.replicate 8 0) 0 := ⟨rfl, fun r i h => by
    rw [List.getElem?_replicate] at h
    split at h <;> simp at h, fun i h => by omega, rfl⟩
theorem DkI.n8 (h : DkI s k a n) : n ≤ 8 := by rw [h.cnt, ← h.len]; exact List.length_filter_le _ _
theorem DkI.skip (h : DkI s k a n) (hk : kdS s k ≠ 3) : DkI s (k + 1) a n :=
  ⟨h.len, fun r i e => by have := h.sound r i e; exact ⟨by omega, this.2⟩, fun i hi h3 => by
    rcases Nat.lt_or_ge i k with h4 | h4
    · exact h.full i h4 h3
    · obtain rfl : i = k := by omega
      exact absurd h3 hk, h.cnt⟩
theorem DkI.take (h : DkI s k a n) {r : Nat} (hk : kdS s k = 3) (hr : bt s k = 48 + r) (h0 : a[r]? = some 0) : DkI s (k + 1) (a.set r (k + 1)) (n + 1) := by
  have hrl : r < a.length := (List.getElem?_eq_some_iff.1 h0).1
  refine ⟨by rw [List.length_set]; exact h.len, fun r' i e => ?_, fun i hi h3 => ?_, by rw [filter_set a r (k + 1) h0 (by omega), ← h.cnt]⟩
  · by_cases hrr : r = r'
    · subst hrr
      rw [List.getElem?_set_self hrl] at e
      simp at e; subst e; exact ⟨by omega, hk, hr⟩
    · rw [List.getElem?_set_ne hrr] at e
      have := h.sound r' i e; exact ⟨by omega, this.2⟩
  · rcases Nat.lt_or_ge i k with h4 | h4
    · have h5 := h.full i h4 h3
      rw [List.getElem?_set]
      by_cases hrr : r = bt s i - 48
      · rw [← hrr] at h5; rw [h0] at h5; simp at h5
      · rw [if_neg hrr]; exact h5
    · obtain rfl : i = k := by omega
      have : bt s i - 48 = r := by omega
      rw [this, List.getElem?_set, if_pos rfl, if_pos hrl]
theorem DkI.twice (h : DkI s k a n) (hks : k < s.size) {r x : Nat} (hk : kdS s k = 3) (hr : bt s k = 48 + r) (h0 : a[r]? = some (x + 1)) : ¬ ∃ ds, DocksL s ds := by
  rintro ⟨ds, hd⟩
  obtain ⟨h1, h2, h3⟩ := h.sound r x h0
  have e1 := hd.all k hks hk
  have e2 := hd.all x (by omega) h2
  rw [h3, ← hr, e1] at e2
  simp at e2
  omega
theorem DkI.shape (h : DkI s s.size a n) {ds : List Nat} (hd : DocksL s ds) : a = ds.map (· + 1) ++ List.replicate (8 - ds.length) 0 ∧ n = ds.length := by
  have hl := hd.len
  have ha : a = ds.map (· + 1) ++ List.replicate (8 - ds.length) 0 := by
    apply List.ext_getElem?
    intro r
    rcases Nat.lt_or_ge r ds.length with h1 | h1
    · rw [List.getElem?_append_left (by simpa using h1), List.getElem?_map]
      obtain ⟨h2, h3, h4⟩ := hd.at_ r _ (List.getElem?_eq_getElem h1)
      have := h.full _ h2 h3
      rw [h4, Nat.add_sub_cancel_left] at this
      rw [this, List.getElem?_eq_getElem h1]; rfl
    · rw [List.getElem?_append_right (by simpa using h1), List.getElem?_replicate, List.length_map]
      rcases Nat.lt_or_ge r 8 with h8 | h8
      · rw [if_pos (by omega)]
        have hra : r < a.length := by rw [h.len]; exact h8
        rw [List.getElem?_eq_getElem hra]
        rcases hx : a[r] with _ | x
        · rfl
        · exfalso
          obtain ⟨q1, q2, q3⟩ := h.sound r x (by rw [List.getElem?_eq_getElem hra, hx])
          have := hd.all x q1 q2
          rw [q3, Nat.add_sub_cancel_left] at this
          have := (List.getElem?_eq_some_iff.1 this).1
          omega
      · rw [if_neg (by omega), List.getElem?_eq_none (by rw [h.len]; exact h8)]
  refine ⟨ha, ?_⟩
  rw [h.cnt, ha, List.filter_append, List.length_append]
  have e1 : (ds.map (· + 1)).filter (fun x => x != 0) = ds.map (· + 1) := by
    rw [List.filter_eq_self]
    intro x hx
    obtain ⟨y, _, rfl⟩ := List.mem_map.1 hx
    simp
  have e2 : (List.replicate (8 - ds.length) 0).filter (fun x => x != 0) = [] := by
    rw [List.filter_eq_nil_iff]
    intro x hx
    rw [(List.mem_replicate.1 hx).2]; simp
  rw [e1, e2]; simp
theorem DkI.hole (h : DkI s s.size a n) {j : Nat} (hj : j < n) (h0 : a[j]? = some 0) : ¬ ∃ ds, DocksL s ds := by
  rintro ⟨ds, hd⟩
  obtain ⟨e1, e2⟩ := h.shape hd
  rw [e1, List.getElem?_append_left (by simp; omega), List.getElem?_map, List.getElem?_eq_getElem (by omega)] at h0
  simp at h0
theorem DkI.none (h : DkI s s.size a 0) : ¬ ∃ ds, DocksL s ds := by
  rintro ⟨ds, hd⟩
  have := (h.shape hd).2
  exact hd.ne (List.eq_nil_of_length_eq_zero this.symm)
theorem DkI.docks (h : DkI s s.size a n) (h0 : 0 < n) (hall : ∀ j, j < n → a[j]? ≠ some 0) : DocksL s ((a.take n).map (· - 1)) := by
  have hn8 := h.n8
  have hla := h.len
  have hrest : ∀ r : Nat, n ≤ r → ∀ x, a[r]? ≠ some (x + 1) := by
    intro r hr x e
    have h1 : a = a.take n ++ a.drop n := (List.take_append_drop n a).symm
    have h2 : (a.take n).filter (fun x => x != 0) = a.take n := by
      rw [List.filter_eq_self]
      intro y hy
      obtain ⟨j, hj⟩ := List.getElem?_of_mem hy
      rw [List.getElem?_take] at hj
      split at hj
      · rename_i hjn
        have := hall j hjn
        rw [hj] at this
        simpa using this
      · cases hj
    have h3 := h.cnt
    rw [h1, List.filter_append, h2, List.length_append, List.length_take, Nat.min_eq_left (by omega)] at h3
    have h4 : (a.drop n).filter (fun x => x != 0) = [] := List.eq_nil_of_length_eq_zero (by omega)
    rw [List.filter_eq_nil_iff] at h4
    have h5 : x + 1 ∈ a.drop n := by
      apply List.mem_of_getElem? (i := r - n)
      rw [List.getElem?_drop, show n + (r - n) = r by omega]; exact e
    have := h4 _ h5
    simp at this
  refine ⟨fun e => ?_, fun r i e => ?_, fun i hi h3 => ?_⟩
  · have h9 : ((a.take n).map (· - 1)).length = n := by rw [List.length_map, List.length_take]; omega
    rw [e] at h9; simp at h9; omega
  · rw [List.getElem?_map, List.getElem?_take] at e
    split at e
    · rename_i hr
      have hra : r < a.length := by omega
      have hne := hall r hr
      rw [List.getElem?_eq_getElem hra] at e hne
      simp at e hne
      exact h.sound r i (by rw [List.getElem?_eq_getElem hra]; congr 1; omega)
    · simp at e
  · have e := h.full i hi h3
    have hr : bt s i - 48 < n := by
      rcases Nat.lt_or_ge (bt s i - 48) n with h4 | h4
      · exact h4
      · exact absurd e (hrest _ h4 i)
    rw [List.getElem?_map, List.getElem?_take, if_pos hr, e]; rfl
end
end Go.Proofs.YtgdokpfepfmbmaaDoor

namespace Go.Proofs.YtgdokpfepfmbmaaDoor
set_option linter.unusedVariables false
set_option linter.unusedSimpArgs false
open Go.RowKit

/-- An int's cell. -/
def IK : Kd Int := { sz := 1, enc := fun x => [.int .i64 x], len := fun _ => rfl, one := by intro a v hv; simp at hv; subst hv; rfl, pos := by decide }
theorem elI : ElT Tryd.prog 39 3 IK 8 := ElT.of (z := .int .i64 0) (by kernel_rfl) (by kernel_rfl) rfl
theorem Rd.intAt {w : World} {l : List Int} {g o n cap : Nat} (h : Rd IK w (.slice (some ⟨g, o, none⟩) n cap) l) {i : Nat} {x : Int} (hx : l[i]? = some x) : w.cell? ⟨g, o + i, none⟩ = some (.int .i64 x) := by
  have := h.at rfl hx (j := 0) rfl
  simpa [IK] using this
theorem Rd.lenI {α : Type} {K : Kd α} {w : World} {v : Value} {l : List α} (h : Rd K w v l) : l.length ≤ maxLen := by
  rcases h with ⟨_, rfl⟩ | ⟨_, _, _, _, h1, h2, _⟩
  · simp
  · omega

set_option maxRecDepth 100000 in
theorem sameInts_any {w : World} {v v' : Value} {a b : List Int} (hv : Rd IK w v a) (hv' : Rd IK w v' b) (d : Bool) (hd : d = decide (a = b)) :
    Calls Tryd.prog 16 #[v, v'] w fun e w' => e = .returned (.bool d) ∧ Kp No w w' := by
  have hla := hv.lenI
  obtain ⟨A, ca, rfl⟩ := hv.shape
  obtain ⟨B, cb, rfl⟩ := hv'.shape
  have H := Lib.hid hv; have H' := Lib.hid hv'; have HD := Lib.hid hd
  unfold maxLen at hla
  clear hv hv' hd
  by_cases hl : a.length = b.length
  · have hlI : (a.length : Int) = (b.length : Int) := by omega
    have hlb : ((a.length : Int) != (b.length : Int)) = false := by simp [hl]
    have HLL := Lib.hid hl
    have hlN : (a.length != b.length) = false := by simp [hl]
    clear hl hlI
    go_enter Tryd.func16, Tryd.ntmps16
    go_wp2
    go_loopw [5] (fun i wr => ∃ k : Nat, i = .int .i64 k ∧ k ≤ a.length ∧ a.take k = b.take k ∧ Kp No w wr) (fun i _ => a.length - (intOf i).toNat)
    case atStart => exact ⟨0, rfl, by omega, rfl, Kp.refl _ _⟩
    case round =>
      obtain ⟨k, rfl, hk, ht, hkp⟩ := hrel
      have KP := Lib.hid hkp; have HT := Lib.hid ht
      clear hkp ht
      by_cases hlt : k < a.length
      · have hltI : (k : Int) < (a.length : Int) := by omega
        have hltB : (k : Int) < (b.length : Int) := by have := HLL.out; omega
        have h0 : (0 : Int) ≤ (k : Int) := by omega
        have hwk : IntKind.i64.wrap ((k : Int) + 1) = (k : Int) + 1 := IntWalk.i64_in _ (by omega)
        obtain ⟨x, hx⟩ : ∃ x, a[k]? = some x := ⟨_, List.getElem?_eq_getElem hlt⟩
        obtain ⟨y, hy⟩ : ∃ y, b[k]? = some y := ⟨_, List.getElem?_eq_getElem (by have := HLL.out; omega)⟩
        rcases H.out with ⟨_, he⟩ | ⟨g, o, cap', hv, _⟩
        · rw [he] at hlt; simp at hlt
        simp only [Value.slice.injEq] at hv
        obtain ⟨rfl, _, rfl⟩ := hv
        rcases H'.out with ⟨_, he⟩ | ⟨g', o', cap'', hv, _⟩
        · rw [he] at hy; simp at hy
        simp only [Value.slice.injEq] at hv
        obtain ⟨rfl, _, rfl⟩ := hv
        have hc := (H.out.kpNo KP.out).intAt hx
        have hc' := (H'.out.kpNo KP.out).intAt hy
        have HX := Lib.hid hx; have HY := Lib.hid hy
        clear hx hy hlt
        by_cases hxy : x = y
        · subst hxy
          go_wp2
          go_quiet (fail)
          go_wp2
          go_roundw
          case rel => exact ⟨k + 1, by go_num, by omega, by rw [List.take_add_one, List.take_add_one, HT.out, HX.out, HY.out], KP.out.drewN _⟩
          case measure => simp [intOf]; omega
        · have hxb : (x != y) = true := by simpa using hxy
          have hne : d = false := by
            rw [HD.out, decide_eq_false_iff_not]
            intro e
            have h1 := HX.out
            rw [e, HY.out] at h1
            simp only [Option.some.injEq] at h1
            exact hxy h1.symm
          have HNE := Lib.hid hne
          clear hxy hne
          go_wp2
          go_quiet (fail)
          go_wp2
          go_ret
          exact ⟨by rw [HNE.out]; rfl, KP.out.drewN _⟩
      · obtain rfl : k = a.length := by omega
        have hd0 : ¬ (a.length : Int) < (a.length : Int) := by omega
        have hE : d = true := by
          rw [HD.out, decide_eq_true_eq]
          have h1 := HT.out
          rwa [List.take_length, HLL.out, List.take_length] at h1
        have HE := Lib.hid hE
        clear hlt hE
        go_wp2
        go_ret
        exact ⟨by rw [HE.out]; rfl, KP.out⟩
  · have hlb : ((a.length : Int) != (b.length : Int)) = true := by simp; omega
    have hlN : (a.length != b.length) = true := by simp [hl]
    have hE : d = false := by
      rw [HD.out, decide_eq_false_iff_not]
      intro e; exact hl (by rw [e])
    have HE := Lib.hid hE
    clear hE hl
    go_enter Tryd.func16, Tryd.ntmps16
    go_wp2
    go_ret
    exact ⟨by rw [HE.out]; rfl, Kp.refl _ _⟩
end Go.Proofs.YtgdokpfepfmbmaaDoor

namespace Go.Proofs.YtgdokpfepfmbmaaDoor
set_option linter.unusedVariables false
set_option linter.unusedSimpArgs false
open Go.RowKit
theorem own : ownKnob Tryd.prog.godebug = none := by kernel_rfl
theorem laid : laidOutB Tryd.prog = true := by kernel_rfl
def LawR (w : World) (e : Ending) (w' : World) : Prop := e = .returned (.bool true) ∧ Kp No w w'
end Go.Proofs.YtgdokpfepfmbmaaDoor

namespace Go.Proofs.YtgdokpfepfmbmaaDoor
set_option linter.unusedVariables false
set_option linter.unusedSimpArgs false
open Go.RowKit

set_option maxRecDepth 100000 in
theorem kind_any (c : Nat) (w : World) : Calls Tryd.prog 83 #[.int .u8 (c : Int)] w fun e w' => e = .returned (.int .i64 (kindB c : Int)) ∧ w' = w := by
  obtain ⟨K, hK⟩ : ∃ K, K = kindB c := ⟨_, rfl⟩
  have HK := Lib.hid hK
  rw [← hK]
  clear hK
  by_cases h1 : c = 35
  · have e : K = 1 := by rw [HK.out]; unfold kindB; rw [if_pos h1]
    subst h1 e
    go_enter Tryd.func83, Tryd.ntmps83
    go_wp2
    go_ret
    exact ⟨rfl, rfl⟩
  · have h1b : ((c : Int) == 35) = false := by simp; omega
    by_cases h2 : 97 ≤ c
    · have h2I : (97 : Int) ≤ (c : Int) := by omega
      by_cases h3 : c ≤ 122
      · have h3I : (c : Int) ≤ 122 := by omega
        have e : K = 2 := by rw [HK.out]; unfold kindB; rw [if_neg h1, if_pos ⟨h2, h3⟩]
        subst e
        clear h1 h2 h3
        go_enter Tryd.func83, Tryd.ntmps83
        go_wp2
        go_ret
        exact ⟨rfl, rfl⟩
      · have h3I : ¬ (c : Int) ≤ 122 := by omega
        have h4I : (48 : Int) ≤ (c : Int) := by omega
        have h5I : ¬ (c : Int) < 56 := by omega
        have e : K = 0 := by rw [HK.out]; unfold kindB; rw [if_neg h1, if_neg (by omega), if_neg (by omega)]
        subst e
        clear h1 h2 h3
        go_enter Tryd.func83, Tryd.ntmps83
        go_wp2
        go_ret
        exact ⟨rfl, rfl⟩
    · have h2I : ¬ (97 : Int) ≤ (c : Int) := by omega
      by_cases h4 : 48 ≤ c
      · have h4I : (48 : Int) ≤ (c : Int) := by omega
        by_cases h5 : c < 56
        · have h5I : (c : Int) < 56 := by omega
          have e : K = 3 := by rw [HK.out]; unfold kindB; rw [if_neg h1, if_neg (by omega), if_pos ⟨h4, h5⟩]
          subst e
          clear h1 h2 h4 h5
          go_enter Tryd.func83, Tryd.ntmps83
          go_wp2
          go_ret
          exact ⟨rfl, rfl⟩
        · have h5I : ¬ (c : Int) < 56 := by omega
          have e : K = 0 := by rw [HK.out]; unfold kindB; rw [if_neg h1, if_neg (by omega), if_neg (by omega)]
          subst e
          clear h1 h2 h4 h5
          go_enter Tryd.func83, Tryd.ntmps83
          go_wp2
          go_ret
          exact ⟨rfl, rfl⟩
      · have h4I : ¬ (48 : Int) ≤ (c : Int) := by omega
        have e : K = 0 := by rw [HK.out]; unfold kindB; rw [if_neg h1, if_neg (by omega), if_neg (by omega)]
        subst e
        clear h1 h2 h4
        go_enter Tryd.func83, Tryd.ntmps83
        go_wp2
        go_ret
        exact ⟨rfl, rfl⟩
end Go.Proofs.YtgdokpfepfmbmaaDoor

namespace Go.Proofs.YtgdokpfepfmbmaaDoor
set_option linter.unusedVariables false
set_option linter.unusedSimpArgs false
open Go.RowKit

theorem dir_0 (w : World) : (Instr.index 141 (.agg #[.int .i64 0, .int .i64 (-1), .int .i64 1, .int .i64 0, .int .i64 0, .int .i64 1, .int .i64 (-1), .int .i64 0]) (.int .i64 0)).run Tryd.prog w = .ok (.agg #[.int .i64 0, .int .i64 (-1)]) w := by kernel_rfl
theorem dir_1 (w : World) : (Instr.index 141 (.agg #[.int .i64 0, .int .i64 (-1), .int .i64 1, .int .i64 0, .int .i64 0, .int .i64 1, .int .i64 (-1), .int .i64 0]) (.int .i64 1)).run Tryd.prog w = .ok (.agg #[.int .i64 1, .int .i64 0]) w := by kernel_rfl
theorem dir_2 (w : World) : (Instr.index 141 (.agg #[.int .i64 0, .int .i64 (-1), .int .i64 1, .int .i64 0, .int .i64 0, .int .i64 1, .int .i64 (-1), .int .i64 0]) (.int .i64 2)).run Tryd.prog w = .ok (.agg #[.int .i64 0, .int .i64 1]) w := by kernel_rfl
theorem dir_3 (w : World) : (Instr.index 141 (.agg #[.int .i64 0, .int .i64 (-1), .int .i64 1, .int .i64 0, .int .i64 0, .int .i64 1, .int .i64 (-1), .int .i64 0]) (.int .i64 3)).run Tryd.prog w = .ok (.agg #[.int .i64 (-1), .int .i64 0]) w := by kernel_rfl

def BsI (W H c : Nat) (f : ByteArray) (bf : Nat) (w0 : World) (v : Value) (k : Nat) (w : World) : Prop := w.heap[bf]? = some (.cells #[.int .i64 (W : Int), .int .i64 (H : Int), .string f] 23 (0, 0)) ∧ NewS IK 3 w0 w v (ints (bsA W H c k))

set_option maxHeartbeats 1000000 in
set_option maxRecDepth 100000 in
theorem beside_any (W H c : Nat) (s : ByteArray) (hW1 : 1 ≤ W) (hW : W ≤ 16) (hH1 : 1 ≤ H) (hH : H ≤ 16) (hc : c < W * H) (w : World) :
    Calls Tryd.prog 57 #[(Flr.mk W H s).val, .int .i64 (c : Int)] w fun e w' => ∃ v, e = .returned v ∧ NewS IK 3 w w' v (ints (besideP W H c)) := by
  unfold Flr.val
  obtain ⟨x, hx⟩ : ∃ x, x = c % W := ⟨_, rfl⟩
  obtain ⟨y, hy⟩ : ∃ y, y = c / W := ⟨_, rfl⟩
  have hxW : x < W := by rw [hx]; exact Nat.mod_lt _ hW1
  have hyH : y < H := by rw [hy]; exact Nat.div_lt_of_lt_mul hc
  have hcy : W * y + x = c := by rw [hx, hy]; exact Nat.div_add_mod c W
  have hc256 : c < 256 := Nat.lt_of_lt_of_le hc (Nat.mul_le_mul hW hH)
  have hxI : (c : Int).tmod (W : Int) = (x : Int) := by rw [Int.tmod_eq_emod_of_nonneg (by omega), hx]; rfl
  have hyI : (c : Int).tdiv (W : Int) = (y : Int) := by rw [Int.tdiv_eq_ediv_of_nonneg (by omega), hy]; rfl
  have hyW : IntKind.i64.wrap (y : Int) = (y : Int) := IntWalk.i64_in _ (by omega)
  have hW0 : (W : Int) ≠ 0 := by omega
  have hW0b : ((W : Int) == 0) = false := by simp; omega
  have HX := Lib.hid hx; have HY := Lib.hid hy; have HCY := Lib.hid hcy
  clear hx hy hcy hc
  go_enter Tryd.func57, Tryd.ntmps57
  go_wp2_with (go_quiet (fail))
  obtain ⟨bf, hbf⟩ : ∃ bf, bf = w.heap.size := ⟨_, rfl⟩
  obtain ⟨w0, hw0⟩ : ∃ w0, w0 = (w.alloc (.cells #[.int .i64 (W : Int), .int .i64 (H : Int), .string s] 23)).drewN nq := ⟨_, rfl⟩
  have K0 := Lib.hid (show Kp No w w0 by rw [hw0]; exact ((Kp.refl _ _).alloc _).drewN _)
  have B0 := Lib.hid (show w0.heap[bf]? = some (.cells #[.int .i64 (W : Int), .int .i64 (H : Int), .string s] 23 (0, 0)) by rw [hw0, hbf]; exact blk_new w _)
  rw [← hbf, ← hw0]
  go_loopg [7, 25] 5 (fun g2 v kk wr => ∃ k : Nat, g2 = 5 - k ∧ kk = .int .i64 k ∧ k ≤ 4 ∧ BsI W H c s bf w0 v k wr)
  case atStart => exact ⟨0, rfl, rfl, by omega, B0.out, NewS.nil _ _ _⟩
  case round =>
    obtain ⟨k, hgk, rfl, hk, hb, hv⟩ := hrel
    have hv2 := bsA_len W H c k
    obtain ⟨A, q, rfl⟩ := hv.own.rd.shape
    have HB := Lib.hid hb; have HV := Lib.hid hv
    have hb0 : wr.cell? ⟨bf, 0, none⟩ = some (.int .i64 (W : Int)) := blk_cell hb 0
    have hb1 : wr.cell? ⟨bf, 1, none⟩ = some (.int .i64 (H : Int)) := blk_cell hb 1
    have hn : (ints (bsA W H c k)).length ≤ 4 := by rw [ints_len]; omega
    clear hb hv hv2 hW0 hW0b hxI hyI hyW hbf hw0
    obtain rfl | rfl | rfl | rfl | rfl : k = 0 ∨ k = 1 ∨ k = 2 ∨ k = 3 ∨ k = 4 := by omega
    · have HA := Lib.hid (bsA_succ W H c 0)
      by_cases hd : 0 < y
      · obtain ⟨p, hp⟩ : ∃ p, p = x := ⟨_, rfl⟩
        obtain ⟨q1, hq⟩ : ∃ q1, q1 = y - 1 := ⟨_, rfl⟩
        have hwx : IntKind.i64.wrap ((x : Int)) = (p : Int) := by rw [IntWalk.i64_in _ (by omega)]; omega
        have hwy : IntKind.i64.wrap ((y : Int) + (-1)) = (q1 : Int) := by rw [IntWalk.i64_in _ (by omega)]; omega
        have hp0 : (0 : Int) ≤ (p : Int) := by omega
        have hpW : (p : Int) < (W : Int) := by omega
        have hq0 : (0 : Int) ≤ (q1 : Int) := by omega
        have hqH : (q1 : Int) < (H : Int) := by omega
        obtain ⟨vv, hvv⟩ : ∃ vv, vv = c - W := ⟨_, rfl⟩
        have hval : q1 * W + p = vv := by
          rw [hvv]
          have := HCY.out
          rw [Nat.mul_comm] at this
          have hle : 1 * W ≤ y * W := Nat.mul_le_mul_right W hd
          rw [hq, hp, Nat.sub_mul]; omega
        obtain ⟨m, hm⟩ : ∃ m, m = q1 * W := ⟨_, rfl⟩
        have hz1 : IntKind.i64.wrap ((q1 : Int) * (W : Int)) = (m : Int) := by rw [← Int.natCast_mul, ← hm, IntWalk.i64_in _ (by omega)]
        have hz2 : IntKind.i64.wrap ((m : Int) + (p : Int)) = (vv : Int) := by rw [IntWalk.i64_in _ (by omega)]; omega
        have HD := Lib.hid (show bsPart W H c 0 = [vv] by unfold bsPart; rw [← HX.out, ← HY.out, hvv] ; simp; omega)
        clear hp hq hd hval hm hvv
        have hix := dir_0
        go_wp2_with fail
        obtain ⟨wd, hwd⟩ : ∃ wd, wd = wr.alloc (.cells #[.int .i64 (0), .int .i64 (-1)] 73) := ⟨_, rfl⟩
        obtain ⟨bd, hbd⟩ : ∃ bd, bd = wr.heap.size := ⟨_, rfl⟩
        have e0 : wd.cell? ⟨bd, 0, none⟩ = some (.int .i64 (0)) := by rw [hwd, hbd]; exact blk_cell (blk_new wr _) 0
        have e1 : wd.cell? ⟨bd, 1, none⟩ = some (.int .i64 (-1)) := by rw [hwd, hbd]; exact blk_cell (blk_new wr _) 1
        have HBD := Lib.hid (show wd.heap[bf]? = some (.cells #[.int .i64 (W : Int), .int .i64 (H : Int), .string s] 23 (0, 0)) by rw [hwd]; exact blk_alloc HB.out _)
        have HVD := Lib.hid (show NewS IK 3 w0 wd _ _ by rw [hwd]; exact HV.out.alloc _)
        have b0 : wd.cell? ⟨bf, 0, none⟩ = some (.int .i64 (W : Int)) := blk_cell HBD.out 0
        have b1 : wd.cell? ⟨bf, 1, none⟩ = some (.int .i64 (H : Int)) := blk_cell HBD.out 1
        rw [← hwd, ← hbd]
        clear hwd hbd hb0 hb1 hix
        go_wp2_with (first | (at_builtin; refine wpl_append elI rfl (.tmp 54) (.tmp 61) rfl rfl rfl (l := ints (bsA W H c 0)) (m := [(vv : Int)]) ?c1 ?c2 ?c3 ?c4 ?c5) | go_quiet (fail))
        case c1 => exact (HVD.out.own.drewN _).alloc _
        case c2 => exact Rd.litAt IK 3 _ _ [(vv : Int)] rfl (by unfold maxLen; simp) _ _ rfl rfl
        case c3 => show (ints (bsA W H c 0)).length + 1 ≤ maxLen; unfold maxLen; omega
        case c4 => show ((ints (bsA W H c 0)).length + 1) * 8 ≤ _; omega
        case c5 =>
          intro v' w' k1 k2 k3
          have q := NewS.app2 k1 k2 k3 (((Kp.refl No wd).drewN _).alloc _) HVD.out (Nat.le_succ _)
          have hb2 := k2.blk (blk_alloc HBD.out _) (fun e => by have := HVD.out.ge _ e; have := lt_of_block B0.out; omega)
          have hE : ints (bsA W H c 0) ++ [(vv : Int)] = ints (bsA W H c (0 + 1)) := by rw [HA.out, HD.out, ints_app]; rfl
          rw [hE] at q
          obtain ⟨A5, c5, rfl⟩ := q.own.rd.shape
          have Q := Lib.hid q; have HB2 := Lib.hid hb2
          clear q k1 k2 k3 hb2 hE b0 b1 e0 e1
          go_wp2
          go_roundg (5 - (0 + 1))
          case measure => omega
          case rel => exact ⟨0 + 1, rfl, by go_num, by omega, HB2.out, Q.out⟩

      · have hwx : IntKind.i64.wrap (x : Int) = (x : Int) := IntWalk.i64_in _ (by omega)
        obtain rfl : y = 0 := by omega
        have hp0 : (0 : Int) ≤ (x : Int) := by omega
        have hpW : (x : Int) < (W : Int) := by omega
        have hwy : IntKind.i64.wrap (((0 : Nat) : Int) + (-1)) = -1 := by decide
        have HD := Lib.hid (show bsPart W H c 0 = [] by unfold bsPart; rw [← HX.out, ← HY.out] ; simp)
        clear hd
        have hix := dir_0
        go_wp2_with fail
        obtain ⟨wd, hwd⟩ : ∃ wd, wd = wr.alloc (.cells #[.int .i64 (0), .int .i64 (-1)] 73) := ⟨_, rfl⟩
        obtain ⟨bd, hbd⟩ : ∃ bd, bd = wr.heap.size := ⟨_, rfl⟩
        have e0 : wd.cell? ⟨bd, 0, none⟩ = some (.int .i64 (0)) := by rw [hwd, hbd]; exact blk_cell (blk_new wr _) 0
        have e1 : wd.cell? ⟨bd, 1, none⟩ = some (.int .i64 (-1)) := by rw [hwd, hbd]; exact blk_cell (blk_new wr _) 1
        have HBD := Lib.hid (show wd.heap[bf]? = some (.cells #[.int .i64 (W : Int), .int .i64 (H : Int), .string s] 23 (0, 0)) by rw [hwd]; exact blk_alloc HB.out _)
        have HVD := Lib.hid (show NewS IK 3 w0 wd _ _ by rw [hwd]; exact HV.out.alloc _)
        have b0 : wd.cell? ⟨bf, 0, none⟩ = some (.int .i64 (W : Int)) := blk_cell HBD.out 0
        have b1 : wd.cell? ⟨bf, 1, none⟩ = some (.int .i64 (H : Int)) := blk_cell HBD.out 1
        rw [← hwd, ← hbd]
        clear hwd hbd hb0 hb1 hix
        have HVE := Lib.hid (show NewS IK 3 w0 wd _ (ints (bsA W H c (0 + 1))) by rw [HA.out, HD.out, List.append_nil]; exact HVD.out)
        have hlen : (ints (bsA W H c 0)).length = (ints (bsA W H c (0 + 1))).length := by rw [HA.out, HD.out, List.append_nil]
        have HLN := Lib.hid hlen
        clear hlen
        go_wp2_with (go_quiet (fail))
        rw [HLN.out]
        go_roundg (5 - (0 + 1))
        case measure => omega
        case rel => exact ⟨0 + 1, rfl, by go_num, by omega, HBD.out, by rw [← HLN.out]; exact HVE.out.kpNo ((Kp.refl _ _).drewN _)⟩
    · have HA := Lib.hid (bsA_succ W H c 1)
      by_cases hd : x + 1 < W
      · obtain ⟨p, hp⟩ : ∃ p, p = x + 1 := ⟨_, rfl⟩
        obtain ⟨q1, hq⟩ : ∃ q1, q1 = y := ⟨_, rfl⟩
        have hwx : IntKind.i64.wrap ((x : Int) + (1)) = (p : Int) := by rw [IntWalk.i64_in _ (by omega)]; omega
        have hwy : IntKind.i64.wrap ((y : Int)) = (q1 : Int) := by rw [IntWalk.i64_in _ (by omega)]; omega
        have hp0 : (0 : Int) ≤ (p : Int) := by omega
        have hpW : (p : Int) < (W : Int) := by omega
        have hq0 : (0 : Int) ≤ (q1 : Int) := by omega
        have hqH : (q1 : Int) < (H : Int) := by omega
        obtain ⟨vv, hvv⟩ : ∃ vv, vv = c + 1 := ⟨_, rfl⟩
        have hval : q1 * W + p = vv := by
          rw [hvv]
          have := HCY.out
          rw [Nat.mul_comm] at this
          rw [hq, hp]; omega
        obtain ⟨m, hm⟩ : ∃ m, m = q1 * W := ⟨_, rfl⟩
        have hz1 : IntKind.i64.wrap ((q1 : Int) * (W : Int)) = (m : Int) := by rw [← Int.natCast_mul, ← hm, IntWalk.i64_in _ (by omega)]
        have hz2 : IntKind.i64.wrap ((m : Int) + (p : Int)) = (vv : Int) := by rw [IntWalk.i64_in _ (by omega)]; omega
        have HD := Lib.hid (show bsPart W H c 1 = [vv] by unfold bsPart; rw [← HX.out, ← HY.out, hvv] ; simp; omega)
        clear hp hq hd hval hm hvv
        have hix := dir_1
        go_wp2_with fail
        obtain ⟨wd, hwd⟩ : ∃ wd, wd = wr.alloc (.cells #[.int .i64 (1), .int .i64 (0)] 73) := ⟨_, rfl⟩
        obtain ⟨bd, hbd⟩ : ∃ bd, bd = wr.heap.size := ⟨_, rfl⟩
        have e0 : wd.cell? ⟨bd, 0, none⟩ = some (.int .i64 (1)) := by rw [hwd, hbd]; exact blk_cell (blk_new wr _) 0
        have e1 : wd.cell? ⟨bd, 1, none⟩ = some (.int .i64 (0)) := by rw [hwd, hbd]; exact blk_cell (blk_new wr _) 1
        have HBD := Lib.hid (show wd.heap[bf]? = some (.cells #[.int .i64 (W : Int), .int .i64 (H : Int), .string s] 23 (0, 0)) by rw [hwd]; exact blk_alloc HB.out _)
        have HVD := Lib.hid (show NewS IK 3 w0 wd _ _ by rw [hwd]; exact HV.out.alloc _)
        have b0 : wd.cell? ⟨bf, 0, none⟩ = some (.int .i64 (W : Int)) := blk_cell HBD.out 0
        have b1 : wd.cell? ⟨bf, 1, none⟩ = some (.int .i64 (H : Int)) := blk_cell HBD.out 1
        rw [← hwd, ← hbd]
        clear hwd hbd hb0 hb1 hix
        go_wp2_with (first | (at_builtin; refine wpl_append elI rfl (.tmp 54) (.tmp 61) rfl rfl rfl (l := ints (bsA W H c 1)) (m := [(vv : Int)]) ?c1 ?c2 ?c3 ?c4 ?c5) | go_quiet (fail))
        case c1 => exact (HVD.out.own.drewN _).alloc _
        case c2 => exact Rd.litAt IK 3 _ _ [(vv : Int)] rfl (by unfold maxLen; simp) _ _ rfl rfl
        case c3 => show (ints (bsA W H c 1)).length + 1 ≤ maxLen; unfold maxLen; omega
        case c4 => show ((ints (bsA W H c 1)).length + 1) * 8 ≤ _; omega
        case c5 =>
          intro v' w' k1 k2 k3
          have q := NewS.app2 k1 k2 k3 (((Kp.refl No wd).drewN _).alloc _) HVD.out (Nat.le_succ _)
          have hb2 := k2.blk (blk_alloc HBD.out _) (fun e => by have := HVD.out.ge _ e; have := lt_of_block B0.out; omega)
          have hE : ints (bsA W H c 1) ++ [(vv : Int)] = ints (bsA W H c (1 + 1)) := by rw [HA.out, HD.out, ints_app]; rfl
          rw [hE] at q
          obtain ⟨A5, c5, rfl⟩ := q.own.rd.shape
          have Q := Lib.hid q; have HB2 := Lib.hid hb2
          clear q k1 k2 k3 hb2 hE b0 b1 e0 e1
          go_wp2
          go_roundg (5 - (1 + 1))
          case measure => omega
          case rel => exact ⟨1 + 1, rfl, by go_num, by omega, HB2.out, Q.out⟩

      · have hwx : IntKind.i64.wrap ((x : Int) + 1) = (x : Int) + 1 := IntWalk.i64_in _ (by omega)
        have hwy : IntKind.i64.wrap (y : Int) = (y : Int) := IntWalk.i64_in _ (by omega)
        have hp0 : (0 : Int) ≤ (x : Int) + 1 := by omega
        have hpW : ¬ (x : Int) + 1 < (W : Int) := by omega
        have HD := Lib.hid (show bsPart W H c 1 = [] by unfold bsPart; rw [← HX.out, ← HY.out] ; simp; omega)
        clear hd
        have hix := dir_1
        go_wp2_with fail
        obtain ⟨wd, hwd⟩ : ∃ wd, wd = wr.alloc (.cells #[.int .i64 (1), .int .i64 (0)] 73) := ⟨_, rfl⟩
        obtain ⟨bd, hbd⟩ : ∃ bd, bd = wr.heap.size := ⟨_, rfl⟩
        have e0 : wd.cell? ⟨bd, 0, none⟩ = some (.int .i64 (1)) := by rw [hwd, hbd]; exact blk_cell (blk_new wr _) 0
        have e1 : wd.cell? ⟨bd, 1, none⟩ = some (.int .i64 (0)) := by rw [hwd, hbd]; exact blk_cell (blk_new wr _) 1
        have HBD := Lib.hid (show wd.heap[bf]? = some (.cells #[.int .i64 (W : Int), .int .i64 (H : Int), .string s] 23 (0, 0)) by rw [hwd]; exact blk_alloc HB.out _)
        have HVD := Lib.hid (show NewS IK 3 w0 wd _ _ by rw [hwd]; exact HV.out.alloc _)
        have b0 : wd.cell? ⟨bf, 0, none⟩ = some (.int .i64 (W : Int)) := blk_cell HBD.out 0
        have b1 : wd.cell? ⟨bf, 1, none⟩ = some (.int .i64 (H : Int)) := blk_cell HBD.out 1
        rw [← hwd, ← hbd]
        clear hwd hbd hb0 hb1 hix
        have HVE := Lib.hid (show NewS IK 3 w0 wd _ (ints (bsA W H c (1 + 1))) by rw [HA.out, HD.out, List.append_nil]; exact HVD.out)
        have hlen : (ints (bsA W H c 1)).length = (ints (bsA W H c (1 + 1))).length := by rw [HA.out, HD.out, List.append_nil]
        have HLN := Lib.hid hlen
        clear hlen
        go_wp2_with (go_quiet (fail))
        rw [HLN.out]
        go_roundg (5 - (1 + 1))
        case measure => omega
        case rel => exact ⟨1 + 1, rfl, by go_num, by omega, HBD.out, by rw [← HLN.out]; exact HVE.out.kpNo ((Kp.refl _ _).drewN _)⟩
    · have HA := Lib.hid (bsA_succ W H c 2)
      by_cases hd : y + 1 < H
      · obtain ⟨p, hp⟩ : ∃ p, p = x := ⟨_, rfl⟩
        obtain ⟨q1, hq⟩ : ∃ q1, q1 = y + 1 := ⟨_, rfl⟩
        have hwx : IntKind.i64.wrap ((x : Int)) = (p : Int) := by rw [IntWalk.i64_in _ (by omega)]; omega
        have hwy : IntKind.i64.wrap ((y : Int) + (1)) = (q1 : Int) := by rw [IntWalk.i64_in _ (by omega)]; omega
        have hp0 : (0 : Int) ≤ (p : Int) := by omega
        have hpW : (p : Int) < (W : Int) := by omega
        have hq0 : (0 : Int) ≤ (q1 : Int) := by omega
        have hqH : (q1 : Int) < (H : Int) := by omega
        obtain ⟨vv, hvv⟩ : ∃ vv, vv = c + W := ⟨_, rfl⟩
        have hval : q1 * W + p = vv := by
          rw [hvv]
          have := HCY.out
          rw [Nat.mul_comm] at this
          rw [hq, hp, Nat.add_mul]; omega
        obtain ⟨m, hm⟩ : ∃ m, m = q1 * W := ⟨_, rfl⟩
        have hz1 : IntKind.i64.wrap ((q1 : Int) * (W : Int)) = (m : Int) := by rw [← Int.natCast_mul, ← hm, IntWalk.i64_in _ (by omega)]
        have hz2 : IntKind.i64.wrap ((m : Int) + (p : Int)) = (vv : Int) := by rw [IntWalk.i64_in _ (by omega)]; omega
        have HD := Lib.hid (show bsPart W H c 2 = [vv] by unfold bsPart; rw [← HX.out, ← HY.out, hvv] ; simp; omega)
        clear hp hq hd hval hm hvv
        have hix := dir_2
        go_wp2_with fail
        obtain ⟨wd, hwd⟩ : ∃ wd, wd = wr.alloc (.cells #[.int .i64 (0), .int .i64 (1)] 73) := ⟨_, rfl⟩
        obtain ⟨bd, hbd⟩ : ∃ bd, bd = wr.heap.size := ⟨_, rfl⟩
        have e0 : wd.cell? ⟨bd, 0, none⟩ = some (.int .i64 (0)) := by rw [hwd, hbd]; exact blk_cell (blk_new wr _) 0
        have e1 : wd.cell? ⟨bd, 1, none⟩ = some (.int .i64 (1)) := by rw [hwd, hbd]; exact blk_cell (blk_new wr _) 1
        have HBD := Lib.hid (show wd.heap[bf]? = some (.cells #[.int .i64 (W : Int), .int .i64 (H : Int), .string s] 23 (0, 0)) by rw [hwd]; exact blk_alloc HB.out _)
        have HVD := Lib.hid (show NewS IK 3 w0 wd _ _ by rw [hwd]; exact HV.out.alloc _)
        have b0 : wd.cell? ⟨bf, 0, none⟩ = some (.int .i64 (W : Int)) := blk_cell HBD.out 0
        have b1 : wd.cell? ⟨bf, 1, none⟩ = some (.int .i64 (H : Int)) := blk_cell HBD.out 1
        rw [← hwd, ← hbd]
        clear hwd hbd hb0 hb1 hix
        go_wp2_with (first | (at_builtin; refine wpl_append elI rfl (.tmp 54) (.tmp 61) rfl rfl rfl (l := ints (bsA W H c 2)) (m := [(vv : Int)]) ?c1 ?c2 ?c3 ?c4 ?c5) | go_quiet (fail))
        case c1 => exact (HVD.out.own.drewN _).alloc _
        case c2 => exact Rd.litAt IK 3 _ _ [(vv : Int)] rfl (by unfold maxLen; simp) _ _ rfl rfl
        case c3 => show (ints (bsA W H c 2)).length + 1 ≤ maxLen; unfold maxLen; omega
        case c4 => show ((ints (bsA W H c 2)).length + 1) * 8 ≤ _; omega
        case c5 =>
          intro v' w' k1 k2 k3
          have q := NewS.app2 k1 k2 k3 (((Kp.refl No wd).drewN _).alloc _) HVD.out (Nat.le_succ _)
          have hb2 := k2.blk (blk_alloc HBD.out _) (fun e => by have := HVD.out.ge _ e; have := lt_of_block B0.out; omega)
          have hE : ints (bsA W H c 2) ++ [(vv : Int)] = ints (bsA W H c (2 + 1)) := by rw [HA.out, HD.out, ints_app]; rfl
          rw [hE] at q
          obtain ⟨A5, c5, rfl⟩ := q.own.rd.shape
          have Q := Lib.hid q; have HB2 := Lib.hid hb2
          clear q k1 k2 k3 hb2 hE b0 b1 e0 e1
          go_wp2
          go_roundg (5 - (2 + 1))
          case measure => omega
          case rel => exact ⟨2 + 1, rfl, by go_num, by omega, HB2.out, Q.out⟩

      · have hwx : IntKind.i64.wrap (x : Int) = (x : Int) := IntWalk.i64_in _ (by omega)
        have hwy : IntKind.i64.wrap ((y : Int) + 1) = (y : Int) + 1 := IntWalk.i64_in _ (by omega)
        have hp0 : (0 : Int) ≤ (x : Int) := by omega
        have hpW : (x : Int) < (W : Int) := by omega
        have hq0 : (0 : Int) ≤ (y : Int) + 1 := by omega
        have hqH : ¬ (y : Int) + 1 < (H : Int) := by omega
        have HD := Lib.hid (show bsPart W H c 2 = [] by unfold bsPart; rw [← HX.out, ← HY.out] ; simp; omega)
        clear hd
        have hix := dir_2
        go_wp2_with fail
        obtain ⟨wd, hwd⟩ : ∃ wd, wd = wr.alloc (.cells #[.int .i64 (0), .int .i64 (1)] 73) := ⟨_, rfl⟩
        obtain ⟨bd, hbd⟩ : ∃ bd, bd = wr.heap.size := ⟨_, rfl⟩
        have e0 : wd.cell? ⟨bd, 0, none⟩ = some (.int .i64 (0)) := by rw [hwd, hbd]; exact blk_cell (blk_new wr _) 0
        have e1 : wd.cell? ⟨bd, 1, none⟩ = some (.int .i64 (1)) := by rw [hwd, hbd]; exact blk_cell (blk_new wr _) 1
        have HBD := Lib.hid (show wd.heap[bf]? = some (.cells #[.int .i64 (W : Int), .int .i64 (H : Int), .string s] 23 (0, 0)) by rw [hwd]; exact blk_alloc HB.out _)
        have HVD := Lib.hid (show NewS IK 3 w0 wd _ _ by rw [hwd]; exact HV.out.alloc _)
        have b0 : wd.cell? ⟨bf, 0, none⟩ = some (.int .i64 (W : Int)) := blk_cell HBD.out 0
        have b1 : wd.cell? ⟨bf, 1, none⟩ = some (.int .i64 (H : Int)) := blk_cell HBD.out 1
        rw [← hwd, ← hbd]
        clear hwd hbd hb0 hb1 hix
        have HVE := Lib.hid (show NewS IK 3 w0 wd _ (ints (bsA W H c (2 + 1))) by rw [HA.out, HD.out, List.append_nil]; exact HVD.out)
        have hlen : (ints (bsA W H c 2)).length = (ints (bsA W H c (2 + 1))).length := by rw [HA.out, HD.out, List.append_nil]
        have HLN := Lib.hid hlen
        clear hlen
        go_wp2_with (go_quiet (fail))
        rw [HLN.out]
        go_roundg (5 - (2 + 1))
        case measure => omega
        case rel => exact ⟨2 + 1, rfl, by go_num, by omega, HBD.out, by rw [← HLN.out]; exact HVE.out.kpNo ((Kp.refl _ _).drewN _)⟩
    · have HA := Lib.hid (bsA_succ W H c 3)
      by_cases hd : 0 < x
      · obtain ⟨p, hp⟩ : ∃ p, p = x - 1 := ⟨_, rfl⟩
        obtain ⟨q1, hq⟩ : ∃ q1, q1 = y := ⟨_, rfl⟩
        have hwx : IntKind.i64.wrap ((x : Int) + (-1)) = (p : Int) := by rw [IntWalk.i64_in _ (by omega)]; omega
        have hwy : IntKind.i64.wrap ((y : Int)) = (q1 : Int) := by rw [IntWalk.i64_in _ (by omega)]; omega
        have hp0 : (0 : Int) ≤ (p : Int) := by omega
        have hpW : (p : Int) < (W : Int) := by omega
        have hq0 : (0 : Int) ≤ (q1 : Int) := by omega
        have hqH : (q1 : Int) < (H : Int) := by omega
        obtain ⟨vv, hvv⟩ : ∃ vv, vv = c - 1 := ⟨_, rfl⟩
        have hval : q1 * W + p = vv := by
          rw [hvv]
          have := HCY.out
          rw [Nat.mul_comm] at this
          rw [hq, hp]; omega
        obtain ⟨m, hm⟩ : ∃ m, m = q1 * W := ⟨_, rfl⟩
        have hz1 : IntKind.i64.wrap ((q1 : Int) * (W : Int)) = (m : Int) := by rw [← Int.natCast_mul, ← hm, IntWalk.i64_in _ (by omega)]
        have hz2 : IntKind.i64.wrap ((m : Int) + (p : Int)) = (vv : Int) := by rw [IntWalk.i64_in _ (by omega)]; omega
        have HD := Lib.hid (show bsPart W H c 3 = [vv] by unfold bsPart; rw [← HX.out, ← HY.out, hvv] ; simp; omega)
        clear hp hq hd hval hm hvv
        have hix := dir_3
        go_wp2_with fail
        obtain ⟨wd, hwd⟩ : ∃ wd, wd = wr.alloc (.cells #[.int .i64 (-1), .int .i64 (0)] 73) := ⟨_, rfl⟩
        obtain ⟨bd, hbd⟩ : ∃ bd, bd = wr.heap.size := ⟨_, rfl⟩
        have e0 : wd.cell? ⟨bd, 0, none⟩ = some (.int .i64 (-1)) := by rw [hwd, hbd]; exact blk_cell (blk_new wr _) 0
        have e1 : wd.cell? ⟨bd, 1, none⟩ = some (.int .i64 (0)) := by rw [hwd, hbd]; exact blk_cell (blk_new wr _) 1
        have HBD := Lib.hid (show wd.heap[bf]? = some (.cells #[.int .i64 (W : Int), .int .i64 (H : Int), .string s] 23 (0, 0)) by rw [hwd]; exact blk_alloc HB.out _)
        have HVD := Lib.hid (show NewS IK 3 w0 wd _ _ by rw [hwd]; exact HV.out.alloc _)
        have b0 : wd.cell? ⟨bf, 0, none⟩ = some (.int .i64 (W : Int)) := blk_cell HBD.out 0
        have b1 : wd.cell? ⟨bf, 1, none⟩ = some (.int .i64 (H : Int)) := blk_cell HBD.out 1
        rw [← hwd, ← hbd]
        clear hwd hbd hb0 hb1 hix
        go_wp2_with (first | (at_builtin; refine wpl_append elI rfl (.tmp 54) (.tmp 61) rfl rfl rfl (l := ints (bsA W H c 3)) (m := [(vv : Int)]) ?c1 ?c2 ?c3 ?c4 ?c5) | go_quiet (fail))
        case c1 => exact (HVD.out.own.drewN _).alloc _
        case c2 => exact Rd.litAt IK 3 _ _ [(vv : Int)] rfl (by unfold maxLen; simp) _ _ rfl rfl
        case c3 => show (ints (bsA W H c 3)).length + 1 ≤ maxLen; unfold maxLen; omega
        case c4 => show ((ints (bsA W H c 3)).length + 1) * 8 ≤ _; omega
        case c5 =>
          intro v' w' k1 k2 k3
          have q := NewS.app2 k1 k2 k3 (((Kp.refl No wd).drewN _).alloc _) HVD.out (Nat.le_succ _)
          have hb2 := k2.blk (blk_alloc HBD.out _) (fun e => by have := HVD.out.ge _ e; have := lt_of_block B0.out; omega)
          have hE : ints (bsA W H c 3) ++ [(vv : Int)] = ints (bsA W H c (3 + 1)) := by rw [HA.out, HD.out, ints_app]; rfl
          rw [hE] at q
          obtain ⟨A5, c5, rfl⟩ := q.own.rd.shape
          have Q := Lib.hid q; have HB2 := Lib.hid hb2
          clear q k1 k2 k3 hb2 hE b0 b1 e0 e1
          go_wp2
          go_roundg (5 - (3 + 1))
          case measure => omega
          case rel => exact ⟨3 + 1, rfl, by go_num, by omega, HB2.out, Q.out⟩

      · obtain rfl : x = 0 := by omega
        have hwx : IntKind.i64.wrap (((0 : Nat) : Int) + (-1)) = -1 := by decide
        have hwy : IntKind.i64.wrap (y : Int) = (y : Int) := IntWalk.i64_in _ (by omega)
        have HD := Lib.hid (show bsPart W H c 3 = [] by unfold bsPart; rw [← HX.out, ← HY.out] ; simp)
        clear hd
        have hix := dir_3
        go_wp2_with fail
        obtain ⟨wd, hwd⟩ : ∃ wd, wd = wr.alloc (.cells #[.int .i64 (-1), .int .i64 (0)] 73) := ⟨_, rfl⟩
        obtain ⟨bd, hbd⟩ : ∃ bd, bd = wr.heap.size := ⟨_, rfl⟩
        have e0 : wd.cell? ⟨bd, 0, none⟩ = some (.int .i64 (-1)) := by rw [hwd, hbd]; exact blk_cell (blk_new wr _) 0
        have e1 : wd.cell? ⟨bd, 1, none⟩ = some (.int .i64 (0)) := by rw [hwd, hbd]; exact blk_cell (blk_new wr _) 1
        have HBD := Lib.hid (show wd.heap[bf]? = some (.cells #[.int .i64 (W : Int), .int .i64 (H : Int), .string s] 23 (0, 0)) by rw [hwd]; exact blk_alloc HB.out _)
        have HVD := Lib.hid (show NewS IK 3 w0 wd _ _ by rw [hwd]; exact HV.out.alloc _)
        have b0 : wd.cell? ⟨bf, 0, none⟩ = some (.int .i64 (W : Int)) := blk_cell HBD.out 0
        have b1 : wd.cell? ⟨bf, 1, none⟩ = some (.int .i64 (H : Int)) := blk_cell HBD.out 1
        rw [← hwd, ← hbd]
        clear hwd hbd hb0 hb1 hix
        have HVE := Lib.hid (show NewS IK 3 w0 wd _ (ints (bsA W H c (3 + 1))) by rw [HA.out, HD.out, List.append_nil]; exact HVD.out)
        have hlen : (ints (bsA W H c 3)).length = (ints (bsA W H c (3 + 1))).length := by rw [HA.out, HD.out, List.append_nil]
        have HLN := Lib.hid hlen
        clear hlen
        go_wp2_with (go_quiet (fail))
        rw [HLN.out]
        go_roundg (5 - (3 + 1))
        case measure => omega
        case rel => exact ⟨3 + 1, rfl, by go_num, by omega, HBD.out, by rw [← HLN.out]; exact HVE.out.kpNo ((Kp.refl _ _).drewN _)⟩
    · have H4 := Lib.hid (show NewS IK 3 w0 wr _ (ints (besideP W H c)) by rw [← bsA_four]; exact HV.out)
      go_wp2
      go_ret
      exact ⟨_, rfl, H4.out.own, fun g hg => by have := H4.out.ge g hg; have := K0.out.size; omega, K0.out.trans H4.out.kp⟩
end Go.Proofs.YtgdokpfepfmbmaaDoor

namespace Go.Proofs.YtgdokpfepfmbmaaDoor
set_option linter.unusedVariables false
set_option linter.unusedSimpArgs false
open Go.RowKit

def arr8 (a : List Nat) : Array Value := (a.map fun (x : Nat) => Value.int .i64 (x : Int)).toArray
theorem arr8_get {a : List Nat} {r x : Nat} (h : a[r]? = some x) : (arr8 a)[r]? = some (.int .i64 (x : Int)) := by unfold arr8; simp [h]
theorem arr8_set (a : List Nat) (r x : Nat) : (arr8 a).setIfInBounds r (.int .i64 (x : Int)) = arr8 (a.set r x) := by
  unfold arr8
  rw [List.setIfInBounds_toArray, List.map_set]
structure DkW (f : Flr) (bf ba : Nat) (a : List Nat) (w0 w : World) : Prop where
  box : w.heap[bf]? = some (.cells #[.int .i64 f.W, .int .i64 f.H, .string f.s] 23 (0, 0))
  arr : w.heap[ba]? = some (.cells (arr8 a) 118 (0, 0))
  kp : Kp No w0 w
  lt : w0.heap.size ≤ bf ∧ w0.heap.size ≤ ba ∧ bf ≠ ba
theorem DkW.set {f : Flr} {bf ba : Nat} {a : List Nat} {w0 w : World} (h : DkW f bf ba a w0 w) (r x : Nat) : DkW f bf ba (a.set r x) w0 (w.setCell ⟨ba, r, none⟩ (.int .i64 (x : Int))) :=
  ⟨blk_far h.box h.lt.2.2 _, by rw [← arr8_set]; exact blk_set h.arr r _, h.kp.setCell (fun e => by have e : ba < w0.heap.size := e; have := h.lt; omega) _, h.lt⟩
theorem DkW.no {f : Flr} {bf ba : Nat} {a : List Nat} {w0 w w' : World} (h : DkW f bf ba a w0 w) (hk : Kp No w w') : DkW f bf ba a w0 w' := ⟨hk.blk h.box (no_no _), hk.blk h.arr (no_no _), h.kp.no hk, h.lt⟩
theorem ints_snocD (L : List Nat) (x : Nat) : ints (L ++ (some (x + 1)).toList.map (· - 1)) = ints L ++ [(x : Int)] := by simp [ints]
def DocksR (s : ByteArray) (w : World) (e : Ending) (w' : World) : Prop :=
  (∃ ds v, e = .returned (.tuple #[v, .bool true]) ∧ DocksL s ds ∧ NewS IK 3 w w' v (ints ds)) ∨ (e = .returned (.tuple #[.slice none 0 0, .bool false]) ∧ (¬ ∃ ds, DocksL s ds) ∧ Kp No w w')

set_option maxHeartbeats 2000000 in
set_option maxRecDepth 100000 in
theorem docks_any (f : Flr) (hs : f.s.size ≤ 2000) (w : World) : Calls Tryd.prog 88 #[f.val] w (DocksR f.s w) := by
  unfold Flr.val
  obtain ⟨n, hn⟩ : ∃ n, n = f.s.size := ⟨_, rfl⟩
  have hnI : ((f.s.size : Nat) : Int) = (n : Int) := by omega
  have HN := Lib.hid hn
  have hn2 : n ≤ 2000 := by omega
  clear hs hn
  go_enter Tryd.func88, Tryd.ntmps88
  go_wp2
  obtain ⟨bf, hbf⟩ : ∃ bf, bf = w.heap.size := ⟨_, rfl⟩
  obtain ⟨ba, hba⟩ : ∃ ba, ba = w.heap.size + 1 := ⟨_, rfl⟩
  obtain ⟨w0, hw0⟩ : ∃ w0, w0 = (w.alloc (.cells #[.int .i64 f.W, .int .i64 f.H, .string f.s] 23)).alloc (.cells #[.int .i64 0, .int .i64 0, .int .i64 0, .int .i64 0, .int .i64 0, .int .i64 0, .int .i64 0, .int .i64 0] 118) := ⟨_, rfl⟩
  have D0 : Hid (DkW f bf ba (List.replicate 8 0) w w0) := Lib.hid (by
    rw [hw0, hbf, hba]
    refine ⟨blk_alloc (blk_new w _) _, ?_, ((Kp.refl _ _).alloc _).alloc _, by omega, by omega, by omega⟩
    have := blk_new (w.alloc (.cells #[.int .i64 f.W, .int .i64 f.H, .string f.s] 23)) (.cells #[.int .i64 0, .int .i64 0, .int .i64 0, .int .i64 0, .int .i64 0, .int .i64 0, .int .i64 0, .int .i64 0] 118)
    show (_ : World).heap[_]? = some (Obj.cells #[.int .i64 0, .int .i64 0, .int .i64 0, .int .i64 0, .int .i64 0, .int .i64 0, .int .i64 0, .int .i64 0] 118 (0, 0))
    simpa using this)
  rw [← hba, ← hbf, ← hw0]
  clear hbf hba hw0
  go_loopg [5, 14] (n + 1) (fun g2 c kk wr => ∃ (k m : Nat) (a : List Nat), g2 = n + 1 - k ∧ kk = .int .i64 k ∧ c = .int .i64 m ∧ k ≤ n ∧ DkW f bf ba a w wr ∧ DkI f.s k a m)
  case atStart => exact ⟨0, 0, _, rfl, rfl, rfl, by omega, D0.out, DkI.start _⟩
  case round =>
    obtain ⟨k, m, a, hgk, rfl, rfl, hk, dw, di⟩ := hrel
    have hm8 := di.n8
    have DW := Lib.hid dw; have DI := Lib.hid di
    clear dw di
    by_cases hlt : k < n
    · have hltI : (k : Int) < (n : Int) := by omega
      have hwk : IntKind.i64.wrap ((k : Int) + 1) = (k : Int) + 1 := IntWalk.i64_in _ (by omega)
      have hwm : IntKind.i64.wrap ((m : Int) + 1) = (m : Int) + 1 := IntWalk.i64_in _ (by omega)
      have hks : k < f.s.size := by have := HN.out; omega
      have hksI : (k : Int) < ((f.s.size : Nat) : Int) := by omega
      have hbt := bt_at f.s k
      have hb2 : wr.cell? ⟨bf, 2, none⟩ = some (.string f.s) := blk_cell DW.out.box 2
      obtain ⟨K, hK⟩ : ∃ K, K = kindB (bt f.s k) := ⟨_, rfl⟩
      have hkd := fun w => kind_any (bt f.s k) w
      rw [← hK] at hkd
      have HK := Lib.hid (show K = kdS f.s k from hK)
      have HKD := Lib.hid hkd
      clear hkd
      by_cases h3 : K = 3
      · have h3b : ((K : Int) != 3) = false := by simp [h3]
        have hdk := kd_dock (hK.symm.trans h3)
        have hkk : kdS f.s k = 3 := by rw [← HK.out, h3]
        obtain ⟨B, hB⟩ : ∃ B, B = bt f.s k := ⟨_, rfl⟩
        rw [← hB] at hbt HKD hdk
        obtain ⟨r, hr⟩ : ∃ r, B = 48 + r := ⟨B - 48, by omega⟩
        have hsub : IntKind.u8.wrap ((B : Int) - 48) = (r : Int) := by rw [IntWalk.u8_in _ (by omega)]; omega
        have hr8 : (r : Int) < 8 := by omega
        have hra : r < a.length := by rw [DI.out.len]; omega
        obtain ⟨x, hx⟩ : ∃ x, a[r]? = some x := ⟨_, List.getElem?_eq_getElem hra⟩
        have hcx : wr.cell? ⟨ba, r, none⟩ = some (.int .i64 (x : Int)) := (blk_cell DW.out.arr r).trans (arr8_get hx)
        have hcf : wr.frozen? ⟨ba, r, none⟩ = false := blk_free DW.out.arr r
        rcases x with _ | x
        · have D2 := Lib.hid (DW.out.set r (k + 1))
          have I2 := Lib.hid (DI.out.take hkk (by rw [← hB, hr]) hx)
          clear hx hra hB hr hdk hkk h3 hK hlt hks
          go_wp2_with (go_at_call 83; refine (HKD.out _).mono ?_; rintro e wz ⟨rfl, rfl⟩)
          go_roundg (n + 1 - (k + 1))
          case measure => omega
          case rel => exact ⟨k + 1, m + 1, _, rfl, by go_num, by go_num, by omega, D2.out, I2.out⟩
        · have hno := Lib.hid (DI.out.twice hks hkk (by rw [← hB, hr]) hx)
          have hx0 : (0 : Int) < ((x + 1 : Nat) : Int) := by omega
          clear hx hra hB hr hdk hkk h3 hK hlt hks
          go_wp2_with (go_at_call 83; refine (HKD.out _).mono ?_; rintro e wz ⟨rfl, rfl⟩)
          go_ret2
          exact .inr ⟨rfl, hno.out, DW.out.kp⟩
      · have h3b : ((K : Int) != 3) = true := by simp; omega
        have I2 := Lib.hid (DI.out.skip (by rw [← HK.out]; exact h3))
        clear h3 hK hlt hks
        go_wp2_with (go_at_call 83; refine (HKD.out _).mono ?_; rintro e wz ⟨rfl, rfl⟩)
        go_roundg (n + 1 - (k + 1))
        case measure => omega
        case rel => exact ⟨k + 1, m, a, rfl, by go_num, rfl, by omega, DW.out, I2.out⟩
    · obtain rfl : k = n := by omega
      have hd0 : ¬ (k : Int) < (k : Int) := by omega
      have DE := Lib.hid (show DkI f.s f.s.size a m by rw [← HN.out]; exact DI.out)
      have hm8I : (m : Int) ≤ 8 := by omega
      have hm0 : (0 : Int) ≤ (m : Int) := by omega
      clear hlt DI
      go_wp2
      obtain ⟨wo, rfl⟩ : ∃ wo : World, wo = wr := ⟨_, rfl⟩
      have KW := Lib.hid DW.out.kp
      have NS0 := Lib.hid (show NewS IK 3 w wo (.slice none 0 0) (ints ((a.take 0).map (· - 1))) from ⟨Own.nil _ _ _, by simp [Value.ownBlock], DW.out.kp⟩)
      have NB0 := Lib.hid (show ∀ g, (Value.slice none 0 0).ownBlock = some g → g ≠ ba by simp [Value.ownBlock])
      go_loopg [8, 42] (m + 1) (fun g2 v jj wx => ∃ j : Nat, g2 = m + 1 - j ∧ jj = .int .i64 j ∧ j ≤ m ∧ (∀ i, i < j → a[i]? ≠ some 0) ∧ NewS IK 3 w wx v (ints ((a.take j).map (· - 1))) ∧ DkW f bf ba a w wx ∧ (∀ g, v.ownBlock = some g → g ≠ ba ∧ g ≠ bf) ∧ (j = 0 → v = .slice none 0 0))
      case atStart => exact ⟨0, rfl, rfl, by omega, by simp, NS0.out, DW.out, by simp [Value.ownBlock], fun _ => rfl⟩
      case round =>
        obtain ⟨j, hgj, rfl, hj, hnz, ns, dw, nb, hz⟩ := hrel
        have hla : ((a.take j).map (· - 1)).length = j := by rw [List.length_map, List.length_take]; have := DE.out.len; omega
        have hj8 : j ≤ 8 := by omega
        by_cases hlt : j < m
        · have hltI : (j : Int) < (m : Int) := by omega
          have hwj : IntKind.i64.wrap ((j : Int) + 1) = (j : Int) + 1 := IntWalk.i64_in _ (by omega)
          have hra : j < a.length := by rw [DE.out.len]; omega
          obtain ⟨x, hx⟩ : ∃ x, a[j]? = some x := ⟨_, List.getElem?_eq_getElem hra⟩
          have hcx : wr.cell? ⟨ba, j, none⟩ = some (.int .i64 (x : Int)) := (blk_cell dw.arr j).trans (arr8_get hx)
          rcases x with _ | x
          · have hno := Lib.hid (DE.out.hole hlt hx)
            have KX := Lib.hid dw.kp
            clear ns dw nb hz hnz hla hx hra hlt
            go_wp2
            go_ret2
            exact .inr ⟨rfl, hno.out, KX.out⟩
          · obtain ⟨A3, q3, rfl⟩ := ns.own.rd.shape
            obtain ⟨T, hTe⟩ : ∃ T, T = (a.take j).map (· - 1) := ⟨_, rfl⟩
            obtain ⟨y, hy⟩ : ∃ y, y = x + 1 := ⟨_, rfl⟩
            rw [← hTe] at ns nb hz hla ⊢
            rw [← hy] at hcx
            rw [ints_len, hla] at ns nb hz ⊢
            have hxw : IntKind.i64.wrap ((y : Int) - 1) = (x : Int) := by
              have := (DE.out.sound j x hx).1
              have := HN.out
              rw [IntWalk.i64_in _ (by omega)]; omega
            have hxe : ((y : Int) == 0) = false := by simp; omega
            have HZ := Lib.hid (show ∀ i, i < j + 1 → a[i]? ≠ some 0 by
              intro i hi
              rcases Nat.lt_or_ge i j with h | h
              · exact hnz i h
              · obtain rfl : i = j := by omega
                rw [hx]; simp)
            have HT := Lib.hid (show ints ((a.take (j + 1)).map (· - 1)) = ints T ++ [(x : Int)] by
              rw [List.take_add_one, hx, List.map_append, hTe]; exact ints_snocD _ x)
            have NS := Lib.hid ns; have DX := Lib.hid dw; have NB := Lib.hid nb
            have HLA := Lib.hid hla
            clear ns dw nb hz hnz hla hx hra hlt hTe hy
            go_wp2_with (at_builtin; refine wpl_append elI rfl (.tmp 48) (.tmp 51) rfl rfl rfl (l := ints T) (m := [(x : Int)]) ?c1 ?c2 ?c3 ?c4 ?c5)
            case c1 => exact NS.out.own.alloc _
            case c2 => exact Rd.litAt IK 3 _ _ [(x : Int)] rfl (by unfold maxLen; simp) _ _ rfl rfl
            case c3 => show (ints _).length + 1 ≤ maxLen; rw [ints_len, HLA.out]; unfold maxLen; omega
            case c4 => show ((ints _).length + 1) * 8 ≤ _; rw [ints_len, HLA.out]; omega
            case c5 =>
              intro v' w' k1 k2 k3
              rw [← HT.out] at k1
              have q := NewS.app2 k1 k2 k3 ((Kp.refl No wr).alloc _) NS.out (Nat.le_succ _)
              have d1 := DX.out.no ((Kp.refl No wr).alloc (.cells #[.int .i64 (x : Int)] 3))
              have hs1 := lt_of_block DX.out.arr
              have hs2 := lt_of_block DX.out.box
              have d2 : DkW f bf ba a w w' := ⟨k2.blk d1.box (fun e => (NB.out _ e).2 rfl), k2.blk d1.arr (fun e => (NB.out _ e).1 rfl), q.kp, d1.lt⟩
              have n2 : ∀ g, v'.ownBlock = some g → g ≠ ba ∧ g ≠ bf := fun g hg => by
                rcases k3 g hg with e | e
                · exact NB.out g e
                · have e : wr.heap.size + 1 ≤ g := e; omega
              obtain ⟨A5, q5, rfl⟩ := k1.rd.shape
              have Q := Lib.hid q; have D2 := Lib.hid d2; have N2 := Lib.hid n2
              clear q d1 d2 n2 k1 k2 k3 hs1 hs2 hcx
              go_wp2
              go_roundg (m + 1 - (j + 1))
              case measure => omega
              case rel => exact ⟨j + 1, rfl, by go_num, by omega, HZ.out, Q.out, D2.out, N2.out, fun e => absurd e (by omega)⟩
        · obtain rfl : j = m := by omega
          have hd0 : ¬ (j : Int) < (j : Int) := by omega
          clear hlt
          by_cases hj0 : j = 0
          · subst hj0
            obtain rfl := hz rfl
            have KX := Lib.hid dw.kp
            have hno := Lib.hid DE.out.none
            clear ns dw nb hz hnz hla
            go_wp2
            go_ret2
            exact .inr ⟨rfl, hno.out, KX.out⟩
          · have hjp : (0 : Int) < (j : Int) := by omega
            have hjp2 : 0 < j := by omega
            have hjb : decide (0 < j) = true := by simp; omega
            have HDS := Lib.hid (DE.out.docks (by omega) hnz)
            obtain ⟨T, hTe⟩ : ∃ T, T = ints ((a.take j).map (· - 1)) := ⟨_, rfl⟩
            rw [← hTe] at ns
            have HTe := Lib.hid hTe
            have NS := Lib.hid ns
            clear ns dw nb hz hnz hla hj0 hTe
            obtain ⟨A3, q3, rfl⟩ := NS.out.own.rd.shape
            go_wp2
            go_ret2
            exact .inl ⟨_, _, rfl, HDS.out, by rw [← HTe.out]; exact NS.out⟩
end Go.Proofs.YtgdokpfepfmbmaaDoor

namespace Go.Proofs.YtgdokpfepfmbmaaDoor
set_option linter.unusedVariables false
set_option linter.unusedSimpArgs false
open Go.RowKit

def lanesTo (s : ByteArray) (k : Nat) : List Nat := (List.range k).filter fun i => kdS s i == 2
theorem lanesTo_in {s : ByteArray} {k : Nat} (h : kdS s k = 2) : lanesTo s (k + 1) = lanesTo s k ++ [k] := by
  unfold lanesTo; rw [List.range_succ, List.filter_append]; simp [h]
theorem lanesTo_out {s : ByteArray} {k : Nat} (h : kdS s k ≠ 2) : lanesTo s (k + 1) = lanesTo s k := by
  unfold lanesTo; rw [List.range_succ, List.filter_append]; simp [h]
theorem lanesTo_mem {s : ByteArray} {k i : Nat} : i ∈ lanesTo s k ↔ i < k ∧ kdS s i = 2 := by unfold lanesTo; simp
theorem lanesTo_len (s : ByteArray) (k : Nat) : (lanesTo s k).length ≤ k := by unfold lanesTo; exact Nat.le_trans (List.length_filter_le _ _) (by simp)

/-- What the search knows: L: lanes that were not met; N: lanes that were met, and are to be looked at. -/
structure Dfs (W H : Nat) (s : ByteArray) (l : Nat) (L N : List Nat) : Prop where
  lane : ∀ i ∈ L, laneI s i
  conn : ∀ i, laneI s i → i ∉ L → Conn W H s l i
  next : ∀ i ∈ N, laneI s i ∧ i ∉ L
  shut : ∀ i, laneI s i → i ∉ L → i ∈ N ∨ ∀ k ∈ besideP W H i, laneI s k → k ∉ L
  first : laneI s l ∧ l ∉ L
/-- While a lane's neighbours are looked at. -/
structure DfsI (W H : Nat) (s : ByteArray) (l c j : Nat) (L N : List Nat) : Prop where
  lane : ∀ i ∈ L, laneI s i
  conn : ∀ i, laneI s i → i ∉ L → Conn W H s l i
  next : ∀ i ∈ N, laneI s i ∧ i ∉ L
  shut : ∀ i, laneI s i → i ∉ L → i ∈ N ∨ i = c ∨ ∀ k ∈ besideP W H i, laneI s k → k ∉ L
  first : laneI s l ∧ l ∉ L
  cell : laneI s c ∧ c ∉ L
  part : ∀ k ∈ (besideP W H c).take j, k ∉ L
section
variable {W H l c j : Nat} {s : ByteArray} {L N : List Nat}
theorem Dfs.pop (h : Dfs W H s l L (N ++ [c])) : DfsI W H s l c 0 L N :=
  ⟨h.lane, h.conn, fun i hi => h.next i (List.mem_append_left _ hi), fun i h1 h2 => by
    rcases h.shut i h1 h2 with h3 | h3
    · rcases List.mem_append.1 h3 with h3 | h3
      · exact .inl h3
      · exact .inr (.inl (List.mem_singleton.1 h3))
    · exact .inr (.inr h3), h.first, h.next c (by simp), fun k hk => by simp at hk⟩
theorem DfsI.seen (h : DfsI W H s l c j L N) {b : Nat} (hb : (besideP W H c)[j]? = some b) (hn : b ∉ L) : DfsI W H s l c (j + 1) L N :=
  ⟨h.lane, h.conn, h.next, h.shut, h.first, h.cell, fun k hk => by
      rw [List.take_add_one, hb] at hk
      rcases List.mem_append.1 hk with hk | hk
      · exact h.part k hk
      · simp at hk; subst hk; exact hn⟩
theorem DfsI.meet (h : DfsI W H s l c j L N) {b : Nat} (hb : (besideP W H c)[j]? = some b) (hn : b ∈ L) : DfsI W H s l c (j + 1) (L.filter fun x => x != b) (N ++ [b]) := by
  have hm : ∀ i, i ∉ L.filter (fun x => x != b) → i ∉ L ∨ i = b := by
    intro i hi
    by_cases e : i = b
    · exact .inr e
    · exact .inl fun h2 => hi (List.mem_filter.2 ⟨h2, by simp [e]⟩)
  have hs : ∀ i, i ∉ L → i ∉ L.filter (fun x => x != b) := fun i hi h2 => hi (List.mem_filter.1 h2).1
  have hbb : b ∉ L.filter (fun x => x != b) := fun h2 => by have := (List.mem_filter.1 h2).2; simp at this
  refine ⟨fun i hi => h.lane i (List.mem_filter.1 hi).1, fun i h1 h2 => ?_, fun i hi => ?_, fun i h1 h2 => ?_, ⟨h.first.1, hs _ h.first.2⟩, ⟨h.cell.1, hs _ h.cell.2⟩, fun k hk => ?_⟩
  · rcases hm i h2 with h3 | rfl
    · exact h.conn i h1 h3
    · exact .step (h.conn c h.cell.1 h.cell.2) (List.mem_of_getElem? hb) h1
  · rcases List.mem_append.1 hi with hi | hi
    · exact ⟨(h.next i hi).1, hs _ (h.next i hi).2⟩
    · obtain rfl := List.mem_singleton.1 hi
      exact ⟨h.lane _ hn, hbb⟩
  · rcases hm i h2 with h3 | rfl
    · rcases h.shut i h1 h3 with h4 | h4 | h4
      · exact .inl (List.mem_append_left _ h4)
      · exact .inr (.inl h4)
      · exact .inr (.inr fun k hk hl => hs _ (h4 k hk hl))
    · exact .inl (by simp)
  · rw [List.take_add_one, hb] at hk
    rcases List.mem_append.1 hk with hk | hk
    · exact hs _ (h.part k hk)
    · simp at hk; subst hk; exact hbb
theorem DfsI.done (h : DfsI W H s l c (besideP W H c).length L N) : Dfs W H s l L N :=
  ⟨h.lane, h.conn, h.next, fun i h1 h2 => by
    rcases h.shut i h1 h2 with h3 | rfl | h3
    · exact .inl h3
    · exact .inr fun k hk _ => h.part k (by rw [List.take_length]; exact hk)
    · exact .inr h3, h.first⟩
theorem Dfs.end_ (h : Dfs W H s l L []) (hW : 1 ≤ W) (hs : s.size = W * H) : L = [] ↔ joinedP W H s := by
  rw [joined_one hW hs h.first.1]
  constructor
  · rintro rfl j hj
    exact h.conn j hj (by simp)
  · intro hc
    rcases L with _ | ⟨x, xs⟩
    · rfl
    · exfalso
      have hx := h.lane x (by simp)
      have := (hc x hx).closed (p := fun i => laneI s i ∧ i ∉ x :: xs) h.first fun j k hj hk hl => by
        rcases h.shut j hj.1 hj.2 with h3 | h3
        · simp at h3
        · exact ⟨hl, h3 k hk hl⟩
      exact this.2 (by simp)
theorem Dfs.start (hl : laneI s l) : Dfs W H s l ((lanesTo s s.size).filter fun x => x != l) [l] := by
  have hm : ∀ i, laneI s i → i ∉ (lanesTo s s.size).filter (fun x => x != l) → i = l := by
    intro i hi hn
    by_cases e : i = l
    · exact e
    · exact absurd (List.mem_filter.2 ⟨lanesTo_mem.2 hi, by simp [e]⟩) hn
  have hln : l ∉ (lanesTo s s.size).filter fun x => x != l := fun h2 => by have := (List.mem_filter.1 h2).2; simp at this
  refine ⟨fun i hi => lanesTo_mem.1 (List.mem_filter.1 hi).1, fun i h1 h2 => ?_, fun i hi => ?_, fun i h1 h2 => ?_, hl, hln⟩
  · rw [hm i h1 h2]; exact .refl
  · rw [List.mem_singleton.1 hi]; exact ⟨hl, hln⟩
  · rw [hm i h1 h2]; exact .inl (by simp)
theorem filter_ne_lt {L : List Nat} {b : Nat} (h : b ∈ L) : (L.filter fun x => x != b).length + 1 ≤ L.length := by
  have := List.length_filter_lt_length_iff_exists (p := fun x => x != b) (l := L) |>.2 ⟨b, h, by simp⟩
  omega
end
end Go.Proofs.YtgdokpfepfmbmaaDoor

namespace Go.Proofs.YtgdokpfepfmbmaaDoor
set_option linter.unusedVariables false
set_option linter.unusedSimpArgs false
open Go.RowKit

theorem del_erase {c : Int} {u : Value} : ∀ {es : List (Int × Value)} {j : Nat}, (es.map (·.1)).Nodup → es[j]? = some (c, u) → delV es c = es.eraseIdx j
  | [], _, _, h => by simp at h
  | x :: xs, 0, hn, h => by
    simp at h
    subst h
    simp only [List.map_cons, List.nodup_cons] at hn
    unfold delV
    rw [List.filter_cons]
    simp only [beq_self_eq_true, Bool.not_true, Bool.false_eq_true, if_false, List.eraseIdx_cons_zero]
    rw [List.filter_eq_self]
    intro y hy
    have : y.1 ≠ c := fun e => hn.1 (by rw [← e]; exact List.mem_map_of_mem hy)
    simp [this]
  | x :: xs, j + 1, hn, h => by
    simp only [List.map_cons, List.nodup_cons] at hn
    have h2 : xs[j]? = some (c, u) := by simpa using h
    have hne : x.1 ≠ c := fun e => hn.1 (by rw [e]; exact List.mem_map_of_mem (f := (·.1)) (List.mem_of_getElem? h2))
    unfold delV
    rw [List.filter_cons, if_pos (by simp [hne]), List.eraseIdx_cons_succ]
    exact congrArg _ (del_erase hn.2 h2)
theorem del_none {c : Int} {es : List (Int × Value)} (h : c ∉ es.map (·.1)) : delV es c = es := by
  unfold delV
  rw [List.filter_eq_self]
  intro y hy
  have : y.1 ≠ c := fun e => h (by rw [← e]; exact List.mem_map_of_mem hy)
  simp [this]

theorem map_eraseIdx' {α β : Type} (f : α → β) : ∀ (l : List α) (i : Nat), (l.eraseIdx i).map f = (l.map f).eraseIdx i
  | [], _ => rfl
  | _ :: _, 0 => rfl
  | x :: xs, i + 1 => congrArg (f x :: ·) (map_eraseIdx' f xs i)
section
variable {P : Program} {w w' : World} {bm : Nat} {es : List (Int × Value)} {tm k e : TypeId}
theorem MapI.del {z : Value} (T : MapT P tm k e z) (h : MapI w bm es) (c : Int) :
    ∃ w', (∀ ty, (Builtin.delete_ #[tm, k] ty #[.map (some bm), .int .i64 c]).run P w = .ok (.tuple #[]) w') ∧ MapI w' bm (delV es c) ∧ Kp (fun j => j = bm) w w' := by
  obtain ⟨arr, clk, hb, hm, hnd, hborn, hbn⟩ := h
  have hlt := lt_of_block hb
  have hf := findNow_I c arr.toList es 0 hm
  have hck := run_checkKey (P := P) (k := k) T.key arr.isEmpty 9999 c w
  cases hr : findI c es 0 with
  | none =>
    rw [hr] at hf
    obtain ⟨hnc, _⟩ := findI_none hr
    refine ⟨{ w with heap := w.heap.setIfInBounds bm (.map arr clk) }, fun ty => ?_, ?_, (Kp.refl (fun j => j = bm) w).setBlk (fun _ => rfl) _⟩
    · simp only [Builtin.delete_, Instr.findKey]
      simp [run_underlying T.und, run_underlying T.key, MapKept.run_getObj_map hb, hck, hf]
      simp [setObj, Sem.run, hb]
    · rw [del_none hnc]
      exact ⟨arr, clk, by simp [hlt], hm, hnd, hborn, hbn⟩
  | some r =>
    obtain ⟨j, u⟩ := r
    rw [hr] at hf
    obtain ⟨hj, _⟩ := findI_some hr
    have hjs : j < arr.size := by
      have h1 : j < es.length := (List.getElem?_eq_some_iff.1 hj).1
      have h2 := congrArg List.length hm
      simp at h2
      omega
    have hl : (arr.eraseIdxIfInBounds j).toList = arr.toList.eraseIdx j := by
      unfold Array.eraseIdxIfInBounds
      rw [dif_pos hjs]
      simp
    refine ⟨{ w with heap := w.heap.setIfInBounds bm (.map (arr.eraseIdxIfInBounds j) clk) }, fun ty => ?_, ?_, (Kp.refl (fun j => j = bm) w).setBlk (fun _ => rfl) _⟩
    · simp only [Builtin.delete_, Instr.findKey]
      simp [run_underlying T.und, run_underlying T.key, MapKept.run_getObj_map hb, hck, hf]
      simp [setObj, Sem.run, hb]
    · rw [del_erase hnd hj]
      refine ⟨_, _, by simp [hlt]; exact ⟨rfl, rfl⟩, ?_, ?_, ?_, ?_⟩
      · rw [hl, map_eraseIdx', map_eraseIdx', hm]
      · rw [map_eraseIdx']; exact hnd.sublist (List.eraseIdx_sublist _ _)
      · intro e he; rw [hl] at he; exact hborn e ((List.eraseIdx_sublist _ _).subset he)
      · rw [hl, map_eraseIdx']; exact hbn.sublist (List.eraseIdx_sublist _ _)
theorem MapI.len {z : Value} (T : MapT P tm k e z) (h : MapI w bm es) (ty : TypeId) : (Builtin.len_ #[tm] ty #[.map (some bm)]).run P w = .ok (goInt es.length) w := by
  obtain ⟨arr, clk, hb, hm, _⟩ := h
  have h2 := congrArg List.length hm
  simp at h2
  simp [Builtin.len_, run_underlying T.und, MapKept.run_getObj_map hb, h2]

/-! ### Sets of ints -/
def SetI (w : World) (bm : Nat) (L : List Int) : Prop := MapI w bm (L.map fun x => (x, Value.bool true))
theorem SetI.kp {S : Nat → Prop} {L : List Int} (h : SetI w bm L) (hk : Kp S w w') (hn : ¬ S bm) : SetI w' bm L := MapI.kp h hk hn
theorem SetI.made (w : World) : SetI (w.alloc (.map #[] 0)) w.heap.size [] := MapI.made w
theorem findI_set (c : Int) : ∀ (L : List Int) (i : Nat), (findI c (L.map fun x => (x, Value.bool true)) i).map (·.2) = if c ∈ L then some (Value.bool true) else none
  | [], i => rfl
  | x :: xs, i => by
    simp only [List.map_cons, findI]
    by_cases h : c = x
    · subst h; simp
    · rw [if_neg (by simpa using h), findI_set c xs (i + 1)]; simp [h]
theorem getV_set (c : Int) (L : List Int) : getV (L.map fun x => (x, Value.bool true)) c (.bool false) = .bool (decide (c ∈ L)) := by
  unfold getV
  rw [findI_set]
  by_cases h : c ∈ L
  · rw [if_pos h, decide_eq_true h]; rfl
  · rw [if_neg h, decide_eq_false h]; rfl
def addS (L : List Int) (c : Int) : List Int := if c ∈ L then L else L ++ [c]
theorem updV_set (c : Int) : ∀ (L : List Int), updV (L.map fun x => (x, Value.bool true)) c (.bool true) = (addS L c).map fun x => (x, Value.bool true)
  | [] => rfl
  | x :: xs => by
    simp only [List.map_cons, updV]
    by_cases h : c = x
    · subst h; simp [addS]
    · rw [if_neg (by simpa using h), updV_set c xs]
      unfold addS
      by_cases h2 : c ∈ xs
      · simp [h, h2]
      · simp [h, h2]
theorem delV_set (c : Int) (L : List Int) : delV (L.map fun x => (x, Value.bool true)) c = (L.filter fun x => x != c).map fun x => (x, Value.bool true) := by
  unfold delV
  rw [List.filter_map]
  rfl
theorem SetI.look {L : List Int} (T : MapT P tm k e (.bool false)) (h : SetI w bm L) (c : Int) : (Instr.lookup tm (.map (some bm)) (.int .i64 c) false).run P w = .ok (.bool (decide (c ∈ L))) w := by rw [← getV_set]; exact MapI.look T h c
theorem SetI.add {L : List Int} (T : MapT P tm k e (.bool false)) (h : SetI w bm L) (c : Int) : ∃ w', (Instr.mapUpdate tm (.map (some bm)) (.int .i64 c) (.bool true)).run P w = .ok () w' ∧ SetI w' bm (addS L c) ∧ Kp (fun j => j = bm) w w' := by
  obtain ⟨w', h1, h2, h3⟩ := MapI.upd T h c (.bool true)
  exact ⟨w', h1, by unfold SetI; rw [← updV_set]; exact h2, h3⟩
theorem SetI.del {L : List Int} (T : MapT P tm k e (.bool false)) (h : SetI w bm L) (c : Int) : ∃ w', (∀ ty, (Builtin.delete_ #[tm, k] ty #[.map (some bm), .int .i64 c]).run P w = .ok (.tuple #[]) w') ∧ SetI w' bm (L.filter fun x => x != c) ∧ Kp (fun j => j = bm) w w' := by
  obtain ⟨w', h1, h2, h3⟩ := MapI.del T h c
  exact ⟨w', h1, by unfold SetI; rw [← delV_set]; exact h2, h3⟩
theorem SetI.len {L : List Int} (T : MapT P tm k e (.bool false)) (h : SetI w bm L) (ty : TypeId) : (Builtin.len_ #[tm] ty #[.map (some bm)]).run P w = .ok (goInt L.length) w := by
  have := MapI.len T h ty
  rwa [List.length_map] at this
theorem SetI.lt {L : List Int} (h : SetI w bm L) : bm < w.heap.size := MapI.lt h
end
end Go.Proofs.YtgdokpfepfmbmaaDoor

namespace Go.Proofs.YtgdokpfepfmbmaaDoor
set_option linter.unusedVariables false
set_option linter.unusedSimpArgs false
open Go.RowKit

theorem mapB : MapT Tryd.prog 168 3 4 (.bool false) := ⟨by kernel_rfl, by kernel_rfl, fun w => by kernel_rfl⟩
structure JnW (W H : Nat) (s : ByteArray) (bf bm : Nat) (w0 : World) (v : Value) (L N : List Nat) (w : World) : Prop where
  box : w.heap[bf]? = some (.cells #[.int .i64 (W : Int), .int .i64 (H : Int), .string s] 23 (0, 0))
  set : SetI w bm (ints L)
  own : Own IK 3 w v (ints N)
  ge : ∀ g, v.ownBlock = some g → w0.heap.size ≤ g
  kp : Kp (fun k => k = bm) w0 w
  lt : bf < w0.heap.size ∧ bm < w0.heap.size ∧ bf ≠ bm
section
variable {W H bf bm : Nat} {s : ByteArray} {w0 w w1 w' : World} {v v' : Value} {L L' N N' : List Nat}
theorem JnW.no (h : JnW W H s bf bm w0 v L N w) (hk : Kp No w w') : JnW W H s bf bm w0 v L N w' :=
  ⟨hk.blk h.box (no_no _), h.set.kp hk (no_no _), h.own.kpNo hk, h.ge, h.kp.no hk, h.lt⟩
theorem JnW.nm (h : JnW W H s bf bm w0 v L N w) {g : Nat} (hg : v.ownBlock = some g) : g ≠ bm ∧ g ≠ bf := by
  have := h.ge g hg; have := h.lt; omega
theorem JnW.map (h : JnW W H s bf bm w0 v L N w) (hs : SetI w' bm (ints L')) (hk : Kp (fun k => k = bm) w w') : JnW W H s bf bm w0 v L' N w' :=
  ⟨hk.blk h.box h.lt.2.2, hs, h.own.kp hk (fun g hg => (h.nm hg).1), h.ge, h.kp.trans hk, h.lt⟩
theorem JnW.app {n : Nat} (h : JnW W H s bf bm w0 v L N w) (hk : Kp No w w1) (k1 : Own IK 3 w' v' (ints N')) (k2 : Kp (fun k => v.ownBlock = some k) w1 w') (k3 : ∀ g, v'.ownBlock = some g → v.ownBlock = some g ∨ n ≤ g) (hn : w.heap.size ≤ n) : JnW W H s bf bm w0 v' L N' w' := by
  have h1 := h.no hk
  have hs := h.kp.size
  refine ⟨k2.blk h1.box (fun e => (h.nm e).2 rfl), h1.set.kp k2 (fun e => (h.nm e).1 rfl), k1, fun g hg => ?_, h1.kp.trans' k2 fun k hk e => by have := h.ge k e; omega, h.lt⟩
  rcases k3 g hg with e | e
  · exact h.ge g e
  · omega
theorem JnW.one (h : JnW W H s bf bm w0 v L N w) (k : Nat) : JnW W H s bf bm w0 (.slice (some ⟨w.heap.size, 0, none⟩) 1 1) L [k] (w.alloc (.cells #[.int .i64 (k : Int)] 3)) := by
  have h1 := h.no ((Kp.refl No w).alloc (.cells #[.int .i64 (k : Int)] 3))
  refine ⟨h1.box, h1.set, Own.lit IK 3 w [.int .i64 (k : Int)] [(k : Int)] rfl (by unfold maxLen; simp), fun g hg => ?_, h1.kp, h.lt⟩
  have := h.kp.size
  simp [Value.ownBlock] at hg
  omega
end
theorem JnW.cut {W H bf bm : Nat} {s : ByteArray} {w0 w : World} {L N : List Nat} {c2 g p cap m : Nat} (h : JnW W H s bf bm w0 (.slice (some ⟨g, 0, none⟩) p cap) L (N ++ [c2]) w) (hm : m = N.length) : JnW W H s bf bm w0 (.slice (some ⟨g, 0, none⟩) m cap) L N w ∧ w.cell? ⟨g, m, none⟩ = some (.int .i64 (c2 : Int)) ∧ m < cap ∧ p = m + 1 := by
  rcases h.own.b with ⟨hv, _⟩ | ⟨g', cap', hv, hcm, hlc, hob⟩
  · simp at hv
  simp only [Value.slice.injEq, Option.some.injEq, Addr.mk.injEq] at hv
  obtain ⟨⟨rfl, _, _⟩, rfl, rfl⟩ := hv
  have hl : (ints (N ++ [c2])).length = m + 1 := by rw [ints_len]; simp [hm]
  have ht : (ints (N ++ [c2])).take m = ints N := by
    unfold ints; rw [← List.map_take, hm, List.take_left]
  have ho := (hob.take m).own hcm
  rw [ht, ints_len, ← hm] at ho
  refine ⟨⟨h.box, h.set, ho, h.ge, h.kp, h.lt⟩, hob.cells m _ ?_, by omega, hl⟩
  have hg : (ints (N ++ [c2]))[m]? = some (c2 : Int) := by
    unfold ints; rw [List.getElem?_map, hm, List.getElem?_append_right (Nat.le_refl _)]; simp
  have := IK.encs_get (ints (N ++ [c2])) m 0 _ hg (by decide)
  simpa [IK] using this
theorem snoc_cases (N : List Nat) : N = [] ∨ ∃ l b, N = l ++ [b] := by
  rcases List.eq_nil_or_concat N with h | ⟨l, b, h⟩
  · exact .inl h
  · exact .inr ⟨l, b, by rw [h, List.concat_eq_append]⟩
theorem ints_snoc (L : List Nat) (k : Nat) : ints (L ++ [k]) = ints L ++ [(k : Int)] := by simp [ints]
theorem ints_mem {L : List Nat} {k : Nat} : (k : Int) ∈ ints L ↔ k ∈ L := by
  unfold ints
  rw [List.mem_map]
  constructor
  · rintro ⟨a, ha, e⟩
    obtain rfl : a = k := by omega
    exact ha
  · exact fun h => ⟨k, h, rfl⟩
theorem ints_filter (L : List Nat) (k : Nat) : (ints L).filter (fun x => x != (k : Int)) = ints (L.filter fun x => x != k) := by
  unfold ints
  rw [List.filter_map]
  congr 1
  apply List.filter_congr
  intro x _
  simp only [Function.comp, bne]
  congr 1
  by_cases e : x = k
  · subst e; simp
  · rw [beq_eq_false_iff_ne.2 e, beq_eq_false_iff_ne.2 (by omega)]
theorem ints_get {L : List Nat} {i x : Nat} (h : L[i]? = some x) : (ints L)[i]? = some (x : Int) := by unfold ints; rw [List.getElem?_map, h]; rfl
theorem addS_new {L : List Nat} {k : Nat} (h : k ∉ L) : addS (ints L) (k : Int) = ints (L ++ [k]) := by unfold addS; rw [if_neg (fun e => h (ints_mem.1 e)), ints_snoc]
end Go.Proofs.YtgdokpfepfmbmaaDoor
