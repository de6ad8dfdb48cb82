/- carfaxref14: Sender. -/
import Derived.Test.YtnejjjoedmefkaaRcv
import Derived.Lib.ConvBytes
namespace Go.Proofs.Ytnejjjoedmefkaa
set_option linter.unusedVariables false
set_option linter.unusedSimpArgs false
open Go.RowKit

theorem Kp.bytesWorld (w : World) (e : TypeId) (s : ByteArray) : Kp No w (Lib.bytesWorld w e s) :=
  ⟨rfl, rfl, rfl, by rw [Lib.bytesWorld_size]; omega, fun k hk _ => Lib.bytesWorld_at_old w e s k hk⟩
theorem run_bytes (d : List Nat) (w : World) : (convert 9 23 (.string (strB d))).run Try.prog w = .ok (.slice (some ⟨w.heap.size, 0, none⟩) d.length (grownCap w d.length 0 5)) (Lib.bytesWorld w 5 (strB d)) := by
  have := Lib.run_convert_string_bytes (P := Try.prog) w 9 23 5 (strB d) (u := .string) (by kernel_rfl) (by kernel_rfl) (by kernel_rfl)
  rwa [strB_size] at this
theorem rd_bytes (w : World) (d : List Nat) (hd : d.length ≤ 1000000) (hx : ∀ x ∈ d, x < 256) : Rd BK (Lib.bytesWorld w 5 (strB d)) (.slice (some ⟨w.heap.size, 0, none⟩) d.length (grownCap w d.length 0 5)) d := by
  refine .inr ⟨w.heap.size, 0, _, rfl, grownCap_ge w _ _ _, grownCap_le_maxLen w _ _ _ (by unfold maxLen; omega), fun j u hu => ?_⟩
  rw [encs_BK, List.getElem?_map] at hu
  obtain ⟨x, hx1, rfl⟩ := Option.map_eq_some_iff.1 hu
  have hj := (List.getElem?_eq_some_iff.1 hx1).1
  have h256 := hx x (List.mem_of_getElem? hx1)
  rw [Nat.zero_add, Lib.bytesWorld_cell w 5 (strB d) j (by rw [strB_size]; exact hj), strB_data, List.getD_eq_getElem?_getD, List.getElem?_map, hx1]
  simp
  omega

/-- Three cells are written. -/
def put3 (cs : Array Value) (o n : Nat) (on : Bool) (d : List Nat) : Array Value := ((cs.setIfInBounds o (.int .u64 (n : Int))).setIfInBounds (o + 1) (.bool on)).setIfInBounds (o + 2) (.string (strB d))
/-- The document's sender: three cells of a block. -/
structure SqS (p o : Nat) (cs : Array Value) (t : TypeId) (n : Nat) (on : Bool) (d : List Nat) (w : World) : Prop where
  blk : w.heap[p]? = some (.cells cs t (0, 0))
  c0 : cs[o]? = some (.int .u64 (n : Int))
  c1 : cs[o + 1]? = some (.bool on)
  c2 : cs[o + 2]? = some (.string (strB d))
  big : n < 18446744073709551616
  ok : on = true → n < 18446744073709551614 ∧ d.length ≤ 200
  byt : ∀ x ∈ d, x < 256
theorem set_same (cs : Array Value) (i : Nat) (v : Value) (h : cs[i]? = some v) : cs.setIfInBounds i v = cs := by
  apply Array.ext_getElem?
  intro j
  rw [Array.getElem?_setIfInBounds]
  split
  · rename_i e; subst e
    split
    · exact h.symm
    · rename_i hlt; rw [Array.getElem?_eq_none (by omega)] at h; cases h
  · rfl
theorem SqS.far {S : Nat → Prop} {p o n : Nat} {cs : Array Value} {t : TypeId} {on : Bool} {d : List Nat} {w w' : World} (h : SqS p o cs t n on d w) (hk : Kp S w w') (hp : ¬ S p) : SqS p o cs t n on d w' := ⟨hk.blk h.blk hp, h.c0, h.c1, h.c2, h.big, h.ok, h.byt⟩
theorem SqS.no {p o n : Nat} {cs : Array Value} {t : TypeId} {on : Bool} {d : List Nat} {w w' : World} (h : SqS p o cs t n on d w) (hk : Kp No w w') : SqS p o cs t n on d w' := h.far hk (no_no _)
theorem SqS.cells {p o n : Nat} {cs : Array Value} {t : TypeId} {on : Bool} {d : List Nat} {w : World} (h : SqS p o cs t n on d w) : w.cell? ⟨p, o, none⟩ = some (.int .u64 (n : Int)) ∧ w.cell? ⟨p, o + 1, none⟩ = some (.bool on) ∧ w.cell? ⟨p, o + 2, none⟩ = some (.string (strB d)) ∧ w.frozen? ⟨p, o, none⟩ = false ∧ w.frozen? ⟨p, o + 1, none⟩ = false ∧ w.frozen? ⟨p, o + 2, none⟩ = false :=
  ⟨(blk_cell h.blk _).trans h.c0, (blk_cell h.blk _).trans h.c1, (blk_cell h.blk _).trans h.c2, blk_free h.blk _, blk_free h.blk _, blk_free h.blk _⟩
theorem SqS.put {p o n m : Nat} {cs : Array Value} {t : TypeId} {on on' : Bool} {d d' : List Nat} {w w' : World} (h : SqS p o cs t n on d w) (hb : w'.heap[p]? = some (.cells (put3 cs o m on' d') t (0, 0))) (hm : m < 18446744073709551616) (hok : on' = true → m < 18446744073709551614 ∧ d'.length ≤ 200) (hby : ∀ x ∈ d', x < 256) :
    SqS p o (put3 cs o m on' d') t m on' d' w' := by
  have l0 := (Array.getElem?_eq_some_iff.1 h.c0).1
  have l1 := (Array.getElem?_eq_some_iff.1 h.c1).1
  have l2 := (Array.getElem?_eq_some_iff.1 h.c2).1
  refine ⟨hb, ?_, ?_, ?_, hm, hok, hby⟩ <;> unfold put3 <;> simp [Array.getElem?_setIfInBounds, l0, l1, l2]
theorem SqS.same {p o n : Nat} {cs : Array Value} {t : TypeId} {on : Bool} {d : List Nat} {w : World} (h : SqS p o cs t n on d w) : put3 cs o n on d = cs := by
  unfold put3
  rw [set_same cs o _ h.c0, set_same cs _ _ h.c1, set_same cs _ _ h.c2]

def RTellR (p o : Nat) (cs : Array Value) (t : TypeId) (n : Nat) (on : Bool) (d d' : List Nat) (w : World) (e : Ending) (w' : World) : Prop :=
  e = .returned (.int .i64 (tellE n on d')) ∧ Kp (fun k => k = p) w w' ∧
    SqS p o (put3 cs o n (on || decide (tellE n on d' = 0)) (if tellE n on d' = 0 then d' else d)) t n (on || decide (tellE n on d' = 0)) (if tellE n on d' = 0 then d' else d) w'

set_option maxRecDepth 100000 in
theorem rtell_any {w : World} {p o n : Nat} {cs : Array Value} {t : TypeId} {on : Bool} {d d' : List Nat} (h : SqS p o cs t n on d w) (hx : ∀ x ∈ d', x < 256) (s : ByteArray) (hs : s = strB d') :
    Calls Try.prog 22 #[.pointer (some ⟨p, o, none⟩), .string s] w (RTellR p o cs t n on d d' w) := by
  subst hs
  obtain ⟨c0, c1, c2, f0, f1, f2⟩ := h.cells
  have H := Lib.hid h; have HX := Lib.hid hx
  have same : tellE n on d' ≠ 0 → ∀ w', w' = w → RTellR p o cs t n on d d' w (.returned (.int .i64 (tellE n on d'))) w' := by
    rintro hne w' rfl
    refine ⟨rfl, Kp.refl _ _, ?_⟩
    rw [if_neg hne, decide_eq_false hne, Bool.or_false, h.same]; exact h
  have SM := Lib.hid same
  have hsz := strB_size d'
  have HSZ := Lib.hid hsz
  clear h hx same
  cases on
  · by_cases h1 : 200 < d'.length
    · have he : tellE n false d' = 4 := by unfold tellE; rw [if_neg (by decide), if_pos (.inl h1)]
      have h1I : (200 : Int) < ((strB d').size : Int) := by omega
      have HE := Lib.hid he
      clear he h1 hsz
      go_enter Try.func22, Try.ntmps22
      go_wp2
      go_ret
      have q := SM.out (by rw [HE.out]; decide) w rfl
      rw [HE.out] at q; exact q
    · have h1I : ¬ (200 : Int) < ((strB d').size : Int) := by omega
      by_cases h2 : 18446744073709551614 ≤ n
      · have he : tellE n false d' = 4 := by unfold tellE; rw [if_neg (by decide), if_pos (.inr h2)]
        have h2I : (18446744073709551614 : Int) ≤ (n : Int) := by omega
        have HE := Lib.hid he
        clear he h1 h2 hsz
        go_enter Try.func22, Try.ntmps22
        go_wp2
        go_ret
        have q := SM.out (by rw [HE.out]; decide) w rfl
        rw [HE.out] at q; exact q
      · have he : tellE n false d' = 0 := by unfold tellE; rw [if_neg (by decide), if_neg (fun h => by rcases h with h | h; exact h1 h; exact h2 h)]
        have h2I : ¬ (18446744073709551614 : Int) ≤ (n : Int) := by omega
        have HE := Lib.hid he; have H1 := Lib.hid h1; have H2 := Lib.hid h2
        clear he h1 h2 hsz
        go_enter Try.func22, Try.ntmps22
        go_wp2
        go_ret
        have hk := (Kp.one (w := w) (p := p) (o + 1) (.bool true)).trans (Kp.one (p := p) (o + 2) (.string (strB d')))
        refine ⟨by rw [HE.out]; rfl, hk, ?_⟩
        rw [if_pos HE.out, decide_eq_true HE.out, Bool.or_true]
        refine H.out.put ?_ H.out.big (fun _ => ⟨by have := H2.out; omega, by have := H1.out; omega⟩) HX.out
        unfold put3
        rw [set_same cs o _ H.out.c0]
        exact blk_set (blk_set H.out.blk _ _) _ _
  · have he : tellE n true d' = 3 := by unfold tellE; rw [if_pos rfl]
    have HE := Lib.hid he
    clear he hsz
    go_enter Try.func22, Try.ntmps22
    go_wp2
    go_ret
    have q := SM.out (by rw [HE.out]; decide) w rfl
    rw [HE.out] at q; exact q

set_option maxRecDepth 100000 in
theorem rpacket_any {w : World} {p o n : Nat} {cs : Array Value} {t : TypeId} {on : Bool} {d : List Nat} (h : SqS p o cs t n on d w) : Calls Try.prog 20 #[.pointer (some ⟨p, o, none⟩)] w (PacketR n on d w) := by
  obtain ⟨c0, c1, c2, f0, f1, f2⟩ := h.cells
  have H := Lib.hid h
  cases on
  · clear h
    go_enter Try.func20, Try.ntmps20
    go_wp2
    go_ret2
    exact ⟨.slice none 0 0, rfl, NewS.nil _ _ _⟩
  · have hb := (h.ok rfl).1
    have hdl := (h.ok rfl).2
    obtain ⟨m, hm⟩ : ∃ m, m = n + 1 := ⟨_, rfl⟩
    have e1 : (n : Int) + 1 = (m : Int) := by omega
    have e2 : IntKind.u64.wrap (m : Int) = (m : Int) := IntWalk.u64_in _ (by omega)
    have hm2 : m < 18446744073709551616 := by omega
    have HM := Lib.hid hm; have HM2 := Lib.hid hm2
    have hcv := run_bytes d
    have RB := Lib.hid (rd_bytes w.drew d (by omega) h.byt)
    have hpl := lt_of_block h.blk
    have d0 : (Lib.bytesWorld w.drew 5 (strB d)).cell? ⟨p, o, none⟩ = some (.int .u64 (n : Int)) := (Lib.bytesWorld_old w.drew _ _ _ hpl).trans c0
    clear h hm hb hm2 hdl
    go_enter Try.func20, Try.ntmps20
    go_wp2
    go_region_law (go_simp; go_at_call 12; refine (rlay_any (w := Lib.bytesWorld w.drew 5 (strB d)) RB.out false m HM2.out H.out.byt).mono ?_; rintro e w2 ⟨v2, rfl, k2⟩; obtain ⟨A2, cp2, rfl⟩ := k2.own.rd.shape; have K2 := Lib.hid k2; clear k2)
    all_goals
      go_wp2
      go_ret2
      exact ⟨.slice A2 (layL false m d).length cp2, rfl, by unfold pktL; rw [if_pos rfl, ← HM.out]; exact ⟨K2.out.own, fun g hg => Nat.le_trans (Kp.bytesWorld w.drew 5 (strB d)).size (K2.out.ge g hg), ((Kp.bytesWorld w.drew 5 (strB d)).trans K2.out.kp).ofDrew⟩⟩
end Go.Proofs.Ytnejjjoedmefkaa
