/- WindowPlays: the walk. -/
import Derived.Test.YtihnbgokkhbjnaaWinR5
namespace Go.Proofs.Ytihnbgokkhbjnaa
set_option linter.unusedVariables false
set_option linter.unusedSimpArgs false
open Go.RowKit

theorem RefTo.pre {br : Nat} {R' : List Rw} {V : Value} {w w1 w' : World} (h : RefTo br R' V w1 w') (hk : Kp No w w1) : RefTo br R' V w w' := by
  obtain ⟨V', a, b, c⟩ := h
  have := hk.size
  exact ⟨V', a, (hk.mono fun _ _ h => h.elim).trans b, fun g hg => (c g hg).imp id fun h => by omega⟩

def ractE (R : List Rw) (a : WAct) : Int := if a.k % 3 = 0 then rtakeE R a.c a.x.1 a.x.2 else if a.k % 3 = 1 then rdropE R (a.c, a.x) else 0
theorem ract_E {R : List Rw} {T : Int → List (Int × Int)} (hR : ∀ c, flt R c = T c) (hT : WFT T) (hl : R.length ≤ 1000) (a : WAct) : ractE R a = actE T a := by
  unfold ractE actE
  split
  · exact (ref_take hR hT hl _ _ _).1
  · split
    · exact (ref_drop hR _ _).1
    · rfl

theorem model_ref {w : World} {br : Nat} {R : List Rw} {V : Value} (h : RepR w br R V) (hlen : R.length ≤ 1000) (a : WAct) (hk : 0 ≤ a.k) (r : Int) (hr : r = ractE R a) :
    Calls Try.prog 19 #[.pointer (some ⟨br, 0, none⟩), .agg #[.int .u8 a.k, .int .i64 a.c, .int .i64 a.x.1, .int .i64 a.x.2]] w fun e w' => e = .returned (.int .i64 r) ∧ RefTo br (ractR R a) V w w' := by
  have h1 := h.kpNo ((Kp.refl _ _).alloc (.cells #[.int .u8 a.k, .int .i64 a.c, .int .i64 a.x.1, .int .i64 a.x.2] 36))
  have H := Lib.hid h1
  have KA : Hid (Kp No w (w.alloc (.cells #[.int .u8 a.k, .int .i64 a.c, .int .i64 a.x.1, .int .i64 a.x.2] 36))) := (Kp.refl _ _).alloc _
  obtain ⟨k, c, x⟩ := a
  simp only at hk H KA
  clear h h1
  by_cases k0 : k % 3 = 0
  · have hr' : r = rtakeE R c x.1 x.2 := by rw [hr]; simp [ractE, k0]
    have HR := Lib.hid hr'
    have ht : ractR R ⟨k, c, x⟩ = rtakeR R c x.1 x.2 := by simp [ractR, k0]
    rw [ht]
    clear hr hr' ht
    go_enter Try.func19, Try.ntmps19
    go_wp2_with (go_at_call 29; refine (rtake_any H.out hlen c x.1 x.2 r HR.out).mono ?_; rintro e w' ⟨rfl, a⟩; have A := Lib.hid a; clear a)
    go_ret
    exact ⟨rfl, A.out.pre KA.out⟩
  · by_cases k1 : k % 3 = 1
    · have hr' : r = rdropE R (c, x) := by rw [hr]; simp [ractE, k1]
      have HR := Lib.hid hr'
      have ht : ractR R ⟨k, c, x⟩ = R.erase (c, x) := by simp [ractR, k1]
      rw [ht]
      clear hr hr' ht
      go_enter Try.func19, Try.ntmps19
      go_wp2_with (go_at_call 30; refine (rdrop_any H.out hlen c x r HR.out).mono ?_; rintro e w' ⟨rfl, a⟩; have A := Lib.hid a; clear a)
      go_ret
      exact ⟨rfl, A.out.pre KA.out⟩
    · have hr' : r = 0 := by rw [hr]; simp [ractE, k0, k1]
      have ht : ractR R ⟨k, c, x⟩ = rforget R x.1 := by simp [ractR, k0, k1]
      rw [ht, hr']
      clear hr hr' ht
      go_enter Try.func19, Try.ntmps19
      go_wp2_with (go_at_call 31; refine (rforget_any H.out hlen x.1).mono ?_; rintro e w' ⟨rfl, a⟩; have A := Lib.hid a; clear a)
      go_ret
      exact ⟨rfl, A.out.pre KA.out⟩

/-- Both tables stand, apart from each other. -/
structure Two (w0 : World) (bt : Nat) (T : Int → List (Int × Int)) (br : Nat) (R : List Rw) (w : World) (F : Nat → Prop) (V : Value) : Prop where
  t : RepT w bt T F
  r : RepR w br R V
  nr : ¬ F br
  ne : bt ≠ br
  nv : ∀ g, V.ownBlock = some g → ¬ F g ∧ g ≠ bt
  kp : Kp No w0 w
  fo : ∀ k, F k → w0.heap.size ≤ k
  bo : w0.heap.size ≤ br
def AtJ (w0 : World) (bt : Nat) (T : Int → List (Int × Int)) (br : Nat) (R : List Rw) (w : World) : Prop := ∃ F V, Two w0 bt T br R w F V
theorem AtJ.kpNo {w0 w w' : World} {bt br : Nat} {T : Int → List (Int × Int)} {R : List Rw} (h : AtJ w0 bt T br R w) (hk : Kp No w w') : AtJ w0 bt T br R w' :=
  let ⟨F, V, t⟩ := h
  ⟨F, V, t.t.kpNo hk, t.r.kpNo hk, t.nr, t.ne, t.nv, t.kp.no hk, t.fo, t.bo⟩
theorem AtJ.kp {w0 w : World} {bt br : Nat} {T : Int → List (Int × Int)} {R : List Rw} (h : AtJ w0 bt T br R w) : Kp No w0 w := let ⟨_, _, t⟩ := h; t.kp

/-- ...and the block bx holds ob, apart from both. -/
def AtX (w0 : World) (bt : Nat) (T : Int → List (Int × Int)) (br : Nat) (R : List Rw) (bx : Nat) (ob : Obj) (w : World) : Prop := ∃ F V, Two w0 bt T br R w F V ∧ w.heap[bx]? = some ob ∧ ¬ F bx ∧ bx ≠ br
theorem AtX.j {w0 w : World} {bt br bx : Nat} {ob : Obj} {T : Int → List (Int × Int)} {R : List Rw} (h : AtX w0 bt T br R bx ob w) : AtJ w0 bt T br R w := let ⟨F, V, t, _⟩ := h; ⟨F, V, t⟩
theorem AtJ.x {w0 w : World} {bt br : Nat} {T : Int → List (Int × Int)} {R : List Rw} (h : AtJ w0 bt T br R w) (ob : Obj) : AtX w0 bt T br R w.heap.size ob (w.alloc ob) := by
  have h' := h.kpNo ((Kp.refl No w).alloc ob)
  obtain ⟨F, V, t⟩ := h
  have hb := lt_of_block t.r.blk
  exact ⟨F, V, ⟨t.t.kpNo ((Kp.refl No w).alloc ob), t.r.kpNo ((Kp.refl No w).alloc ob), t.nr, t.ne, t.nv, t.kp.alloc ob, t.fo, t.bo⟩, blk_new w ob, fun hF => by have := t.t.lt.2 _ hF; omega, by omega⟩
theorem AtX.kpNo {w0 w w' : World} {bt br bx : Nat} {ob : Obj} {T : Int → List (Int × Int)} {R : List Rw} (h : AtX w0 bt T br R bx ob w) (hk : Kp No w w') : AtX w0 bt T br R bx ob w' :=
  let ⟨F, V, t, a, b, c⟩ := h
  ⟨F, V, ⟨t.t.kpNo hk, t.r.kpNo hk, t.nr, t.ne, t.nv, t.kp.no hk, t.fo, t.bo⟩, hk.blk a (no_no _), b, c⟩
theorem AtX.blk {w0 w : World} {bt br bx : Nat} {ob : Obj} {T : Int → List (Int × Int)} {R : List Rw} (h : AtX w0 bt T br R bx ob w) : w.heap[bx]? = some ob := let ⟨_, _, _, a, _⟩ := h; a

theorem does_x {w0 w : World} {bt br bx : Nat} {ob : Obj} {T : Int → List (Int × Int)} {R : List Rw} (h : AtX w0 bt T br R bx ob w) (hT : WFT T) (a : WAct) (hk : 0 ≤ a.k) (r : Int) (hr : r = actE T a) :
    Calls Try.prog 16 #[.pointer (some ⟨bt, 0, none⟩), .agg #[.int .u8 a.k, .int .i64 a.c, .int .i64 a.x.1, .int .i64 a.x.2]] w fun e w' => e = .returned (.int .i64 r) ∧ AtX w0 bt (actT T a) br R bx ob w' := by
  obtain ⟨F, V, t, x1, x2, x3⟩ := h
  refine (does_tab t.t hT a hk r hr).mono fun e w' ⟨he, F', g1, g2, g3⟩ => ⟨he, F', V, ⟨g1, t.r.kp g2 t.nr fun g hg => (t.nv g hg).1, ?_, t.ne, fun g hg => ⟨?_, (t.nv g hg).2⟩, t.kp.trans' g2 fun k hk hF => ?_, fun k hk => ?_, t.bo⟩, g2.blk x1 x2, ?_, x3⟩
  · intro hF; rcases g3 _ hF with h | h
    · exact t.nr h
    · have := lt_of_block t.r.blk; omega
  · intro hF; rcases g3 _ hF with h | h
    · exact (t.nv g hg).1 h
    · have := (t.r.ne g hg).2; omega
  · have := t.fo k hF; omega
  · have := t.kp.size
    rcases g3 _ hk with h | h
    · exact t.fo k h
    · omega
  · intro hF; rcases g3 _ hF with h | h
    · exact x2 h
    · have := lt_of_block x1; omega
theorem model_x {w0 w : World} {bt br bx : Nat} {ob : Obj} {T : Int → List (Int × Int)} {R : List Rw} (h : AtX w0 bt T br R bx ob w) (hlen : R.length ≤ 1000) (a : WAct) (hk : 0 ≤ a.k) (r : Int) (hr : r = ractE R a) :
    Calls Try.prog 19 #[.pointer (some ⟨br, 0, none⟩), .agg #[.int .u8 a.k, .int .i64 a.c, .int .i64 a.x.1, .int .i64 a.x.2]] w fun e w' => e = .returned (.int .i64 r) ∧ AtX w0 bt T br (ractR R a) bx ob w' := by
  obtain ⟨F, V, t, x1, x2, x3⟩ := h
  refine (model_ref t.r hlen a hk r hr).mono fun e w' ⟨he, V', g1, g2, g3⟩ => ⟨he, F, V', ⟨t.t.kp g2 t.ne (fun b hb e => t.nr (e ▸ hb)), g1, t.nr, t.ne, fun g hg => ?_, t.kp.trans' g2 fun k hk hF => ?_, t.fo, t.bo⟩, g2.blk x1 x3, x2, x3⟩
  · rcases g3 g hg with h | h
    · exact t.nv g h
    · exact ⟨fun hF => by have := t.t.lt.2 _ hF; omega, by have := t.t.lt.1; omega⟩
  · have := t.bo; omega

/-- ...and nothing but new memory came since wb. -/
def AtK (wb w0 : World) (bt : Nat) (T : Int → List (Int × Int)) (br : Nat) (R : List Rw) (bx : Nat) (ob : Obj) (w : World) : Prop := AtX w0 bt T br R bx ob w ∧ Kp No wb w
theorem AtK.kpNo {wb w0 w w' : World} {bt br bx : Nat} {ob : Obj} {T : Int → List (Int × Int)} {R : List Rw} (h : AtK wb w0 bt T br R bx ob w) (hk : Kp No w w') : AtK wb w0 bt T br R bx ob w' := ⟨h.1.kpNo hk, h.2.no hk⟩
theorem AtK.blk {wb w0 w : World} {bt br bx : Nat} {ob : Obj} {T : Int → List (Int × Int)} {R : List Rw} (h : AtK wb w0 bt T br R bx ob w) : w.heap[bx]? = some ob := h.1.blk

/-- A list is handed back, and both stand. -/
def RetX (wb w0 : World) (bt : Nat) (T : Int → List (Int × Int)) (br : Nat) (R : List Rw) (bx : Nat) (ob : Obj) (l : List (Int × Int)) (w : World) (en : Ending) (w' : World) : Prop :=
  ∃ v', en = .returned v' ∧ Rd WK w' v' l ∧ Kp No w w' ∧ AtK wb w0 bt T br R bx ob w'
theorem RetNew.x {wb w0 w w' : World} {bt br bx : Nat} {ob : Obj} {T : Int → List (Int × Int)} {R : List Rw} {l : List (Int × Int)} {en : Ending} (h : AtK wb w0 bt T br R bx ob w) (hr : RetNew WK 23 l w en w') : RetX wb w0 bt T br R bx ob l w en w' :=
  let ⟨v, he, a, b, _⟩ := hr
  ⟨v, he, a.rd, b, h.kpNo b⟩
section
variable {wb w0 w : World} {bt br bx : Nat} {ob : Obj} {T : Int → List (Int × Int)} {R : List Rw}
theorem taken_x (h : AtK wb w0 bt T br R bx ob w) (hT : WFT T) (c : Int) : Calls Try.prog 14 #[.pointer (some ⟨bt, 0, none⟩), .int .i64 c] w (RetX wb w0 bt T br R bx ob (T c) w) :=
  have ⟨_, _, t, _⟩ := h.1
  (taken_any t.t hT c).mono fun _ _ hr => hr.x h
theorem free_x (h : AtK wb w0 bt T br R bx ob w) (hT : WFT T) (c : Int) : Calls Try.prog 13 #[.pointer (some ⟨bt, 0, none⟩), .int .i64 c] w (RetX wb w0 bt T br R bx ob (freeL (T c)) w) :=
  have ⟨_, _, t, _⟩ := h.1
  (free_any t.t hT c).mono fun _ _ hr => hr.x h
theorem rtaken_x (h : AtK wb w0 bt T br R bx ob w) (hl : R.length ≤ 1000) (hR : ∀ c, flt R c = T c) (c : Int) : Calls Try.prog 20 #[.pointer (some ⟨br, 0, none⟩), .int .i64 c] w (RetX wb w0 bt T br R bx ob (T c) w) := by
  have ⟨_, _, t, _⟩ := h.1
  rw [← hR c]
  exact (rtaken_any t.r hl c).mono fun _ _ hr => hr.x h
theorem rfree_x (h : AtK wb w0 bt T br R bx ob w) (hl : R.length ≤ 1000) (hR : ∀ c, flt R c = T c) (c : Int) : Calls Try.prog 21 #[.pointer (some ⟨br, 0, none⟩), .int .i64 c] w (RetX wb w0 bt T br R bx ob (freeL (T c)) w) := by
  have ⟨_, _, t, _⟩ := h.1
  rw [← hR c]
  exact (rfree_any t.r hl c).mono fun _ _ hr => hr.x h
theorem is_x (h : AtK wb w0 bt T br R bx ob w) (hT : WFT T) (c m : Int) (r : Bool) (hr : r = isF (T c) m) : Calls Try.prog 12 #[.pointer (some ⟨bt, 0, none⟩), .int .i64 c, .int .i64 m] w fun e w' => e = .returned (.bool r) ∧ AtK wb w0 bt T br R bx ob w' := by
  have ⟨_, _, t, _⟩ := h.1
  subst hr
  exact (is_any t.t hT c m).mono fun _ _ ⟨he, hk⟩ => ⟨he, h.kpNo hk⟩
theorem ris_x (h : AtK wb w0 bt T br R bx ob w) (hT : WFT T) (hl : R.length ≤ 1000) (hR : ∀ c, flt R c = T c) (c m : Int) (r : Bool) (hr : r = isF (T c) m) : Calls Try.prog 22 #[.pointer (some ⟨br, 0, none⟩), .int .i64 c, .int .i64 m] w fun e w' => e = .returned (.bool r) ∧ AtK wb w0 bt T br R bx ob w' := by
  have ⟨_, _, t, _⟩ := h.1
  exact (ris_any t.r hl c m r (by rw [hr, hR, ref_is (hT c) m])).mono fun _ _ ⟨he, hk⟩ => ⟨he, h.kpNo hk⟩
theorem same_x (h : AtK wb w0 bt T br R bx ob w) {a b : Value} {l m : List (Int × Int)} (ha : Rd WK w a l) (hb : Rd WK w b m) (hl : l.length ≤ 1000000) (hm : m.length ≤ 1000000) (r : Bool) (hr : r = decide (l = m)) :
    Calls Try.prog 18 #[a, b] w fun e w' => e = .returned (.bool r) ∧ AtK wb w0 bt T br R bx ob w' :=
  (same_any ha hb hl hm r hr).mono fun _ _ ⟨he, hk⟩ => ⟨he, h.kpNo hk⟩
end
end Go.Proofs.Ytihnbgokkhbjnaa
