/- The table of windows in memory; place, Is. -/
import Derived.Test.YtihnbgokkhbjnaaWinA6
import Derived.Test.YtihnbgokkhbjnaaMap
namespace Go.Proofs.Ytihnbgokkhbjnaa
set_option linter.unusedVariables false
set_option linter.unusedSimpArgs false
open Go.RowKit

theorem bsearch_nil (m : Int) (w : World) :
    Calls Try.prog 34 #[.slice none 0 0, .int .i64 m, .func (.func 35) #[] #[]] w fun e w' => e = .returned (.tuple #[.int .i64 0, .bool false]) ∧ w' = w := by
  go_enter Try.func34, Try.ntmps34
  go_wp2
  go_loopw [9, 10] (fun i j wr => i = .int .i64 0 ∧ j = .int .i64 0 ∧ wr = w) (fun i j _ => 0)
  case atStart => exact ⟨rfl, rfl, rfl⟩
  case round =>
    obtain ⟨rfl, rfl, rfl⟩ := hrel
    go_wp2
    go_ret2
    exact ⟨by simp, rfl⟩

/-- Windows in order. -/
def Sor (l : List (Int × Int)) : Prop := ∀ (i j : Nat) (x y : Int × Int), l[i]? = some x → l[j]? = some y → i ≤ j → x.2 ≤ y.2

theorem bsearch_any (v : Value) (l : List (Int × Int)) (m : Int) (w : World) (h : Rd WK w v l) (hl : l.length ≤ 1000000) (hs : Sor l) :
    Calls Try.prog 34 #[v, .int .i64 m, .func (.func 35) #[] #[]] w fun e w' => e = .returned (.tuple #[.int .i64 (place l m), .bool false]) ∧ Kp No w w' := by
  rcases h with ⟨rfl, rfl⟩ | ⟨g, o, cap, rfl, h1, h2, h3⟩
  · exact (bsearch_nil m w).mono fun e w' ⟨he, hw⟩ => ⟨by rw [he]; rfl, hw ▸ Kp.refl _ _⟩
  · have hr : Rd WK w (.slice (some ⟨g, o, none⟩) l.length cap) l := .inr ⟨g, o, cap, rfl, h1, h2, h3⟩
    by_cases he : l.length = 0
    · obtain rfl : l = [] := List.eq_nil_of_length_eq_zero he
      go_enter Try.func34, Try.ntmps34
      go_wp2
      go_loopw [9, 10] (fun i j wr => i = .int .i64 0 ∧ j = .int .i64 0 ∧ wr = w) (fun i j _ => 0)
      case atStart => exact ⟨rfl, rfl, rfl⟩
      case round =>
        obtain ⟨rfl, rfl, rfl⟩ := hrel
        go_wp2
        go_ret2
        exact ⟨by simp [place], Kp.refl _ _⟩
    · have hg : g < w.heap.size := by
        obtain ⟨x, hx⟩ : ∃ x, l[0]? = some x := ⟨_, List.getElem?_eq_getElem (by omega)⟩
        exact World.block_lt_of_cell? w _ (hr.winAt hx).1
      exact (bsearch g o cap l m w hg (by omega) h1 (fun i x hx => hr.winAt hx) (fun i j x y hx hy hij hm => Int.le_trans (hs i j x y hx hy hij) hm)).mono fun e w' ⟨he, hb⟩ => ⟨he, Kp.ofBelow hb⟩

/-! ### The table -/

def setT (T : Int → List (Int × Int)) (c : Int) (l : List (Int × Int)) : Int → List (Int × Int) := fun c' => if c' = c then l else T c'

def RepT (w : World) (bt : Nat) (T : Int → List (Int × Int)) (F : Nat → Prop) : Prop :=
  ∃ bm es, w.heap[bt]? = some (.cells #[.map (some bm)] 53 (0, 0)) ∧ MapI w bm es ∧ (∀ x ∈ es, Own WK 23 w x.2 (T x.1)) ∧ (∀ c, c ∉ es.map (·.1) → T c = []) ∧
    (∀ x ∈ es, ∀ y ∈ es, ∀ g, x.2.ownBlock = some g → y.2.ownBlock = some g → x = y) ∧ ∀ b, F b ↔ b = bm ∨ ∃ x ∈ es, x.2.ownBlock = some b

theorem mapW : MapT Try.prog 51 3 30 (.slice none 0 0) := ⟨by kernel_rfl, by kernel_rfl, fun w => by kernel_rfl⟩

theorem mem_updV {es : List (Int × Value)} {c : Int} {v : Value} (hnd : (es.map (·.1)).Nodup) (x : Int × Value) : x ∈ updV es c v ↔ x = (c, v) ∨ (x ∈ es ∧ x.1 ≠ c) := by
  induction es with
  | nil => simp [updV]
  | cons y es ih =>
    simp only [List.map_cons, List.nodup_cons] at hnd
    have ih := ih hnd.2
    by_cases hc : c = y.1
    · simp only [updV, hc, beq_self_eq_true, if_true, List.mem_cons]
      constructor
      · rintro (rfl | h)
        · exact .inl rfl
        · exact .inr ⟨.inr h, fun e => hnd.1 (e ▸ List.mem_map_of_mem h)⟩
      · rintro (rfl | ⟨rfl | h, h2⟩)
        · exact .inl rfl
        · exact absurd rfl h2
        · exact .inr h
    · simp only [updV, beq_eq_false_iff_ne.2 hc, Bool.false_eq_true, if_false, List.mem_cons, ih]
      constructor
      · rintro (rfl | rfl | ⟨h, h2⟩)
        · exact .inr ⟨.inl rfl, fun e => hc e.symm⟩
        · exact .inl rfl
        · exact .inr ⟨.inr h, h2⟩
      · rintro (rfl | ⟨rfl | h, h2⟩)
        · exact .inr (.inl rfl)
        · exact .inl rfl
        · exact .inr (.inr ⟨h, h2⟩)

theorem getV_cases (es : List (Int × Value)) (c : Int) (z : Value) : ((c, getV es c z) ∈ es) ∨ (getV es c z = z ∧ c ∉ es.map (·.1)) := by
  unfold getV
  cases hr : findI c es 0 with
  | none => exact .inr ⟨rfl, (findI_none hr).1⟩
  | some r => obtain ⟨j, u⟩ := r; exact .inl (List.mem_of_getElem? (findI_some hr).1)

theorem nodup_key {es : List (Int × Value)} (hnd : (es.map (·.1)).Nodup) {x y : Int × Value} (hx : x ∈ es) (hy : y ∈ es) (h : x.1 = y.1) : x = y := by
  induction es with
  | nil => simp at hx
  | cons z es ih =>
    simp only [List.map_cons, List.nodup_cons] at hnd
    simp only [List.mem_cons] at hx hy
    rcases hx with rfl | hx <;> rcases hy with rfl | hy
    · rfl
    · exact absurd (h ▸ List.mem_map_of_mem hy) hnd.1
    · exact absurd (h ▸ List.mem_map_of_mem hx) hnd.1
    · exact ih hnd.2 hx hy

theorem RepT.lt {w : World} {bt : Nat} {T : Int → List (Int × Int)} {F : Nat → Prop} (h : RepT w bt T F) : bt < w.heap.size ∧ ∀ b, F b → b < w.heap.size := by
  obtain ⟨bm, es, h1, h2, h3, h4, h5, h6⟩ := h
  refine ⟨lt_of_block h1, fun b hb => ?_⟩
  rcases (h6 b).1 hb with rfl | ⟨x, hx, hxb⟩
  · exact h2.lt
  · exact (h3 x hx).lt hxb

/-- The table's own cell is none of those that its methods change. -/
theorem RepT.bt_not {w : World} {bt : Nat} {T : Int → List (Int × Int)} {F : Nat → Prop} (h : RepT w bt T F) : ¬ F bt := by
  obtain ⟨bm, es, h1, h2, h3, h4, h5, h6⟩ := h
  intro hb
  rcases (h6 bt).1 hb with rfl | ⟨x, hx, hxb⟩
  · obtain ⟨arr, clk, h2', _⟩ := h2
    rw [h1] at h2'
    simp at h2'
  · rcases h3 x hx with ⟨hv, _⟩ | ⟨g, cap, cur, hv, hb', _⟩
    · rw [hv] at hxb; simp [Value.ownBlock] at hxb
    · rw [hv] at hxb
      simp [Value.ownBlock] at hxb
      subst hxb
      rw [h1] at hb'
      simp at hb'

theorem RepT.kp {w w' : World} {bt : Nat} {T : Int → List (Int × Int)} {F S : Nat → Prop} (h : RepT w bt T F) (hk : Kp S w w') (h1 : ¬ S bt) (h2 : ∀ b, F b → ¬ S b) : RepT w' bt T F := by
  obtain ⟨bm, es, a1, a2, a3, a4, a5, a6⟩ := h
  exact ⟨bm, es, hk.blk a1 h1, a2.kp hk (h2 bm ((a6 bm).2 (.inl rfl))), fun x hx => (a3 x hx).kp hk fun g hg => h2 g ((a6 g).2 (.inr ⟨x, hx, hg⟩)), a4, a5, a6⟩
theorem RepT.kpNo {w w' : World} {bt : Nat} {T : Int → List (Int × Int)} {F : Nat → Prop} (h : RepT w bt T F) (hk : Kp No w w') : RepT w' bt T F := h.kp hk (no_no _) fun _ _ => no_no _

theorem RepT.at {w : World} {bt : Nat} {T : Int → List (Int × Int)} {F : Nat → Prop} (h : RepT w bt T F) (c : Int) :
    ∃ bm v, w.cell? ⟨bt, 0, none⟩ = some (.map (some bm)) ∧ (∀ n, (Instr.lookup 51 (.map (some bm)) (.int .i64 c) false).run Try.prog (w.drewN n) = .ok v (w.drewN n)) ∧ Own WK 23 w v (T c) ∧ (∀ g, v.ownBlock = some g → F g) ∧
      ∀ w1 v' l', Kp (fun k => v.ownBlock = some k) w w1 → Own WK 23 w1 v' l' → (∀ g, v'.ownBlock = some g → v.ownBlock = some g ∨ w.heap.size ≤ g) →
        ∃ w2 F', (Instr.mapUpdate 51 (.map (some bm)) (.int .i64 c) v').run Try.prog w1 = .ok () w2 ∧ RepT w2 bt (setT T c l') F' ∧ Kp F w w2 ∧ ∀ k, F' k → F k ∨ w.heap.size ≤ k := by
  have hbt := h.bt_not
  have hlt := h.lt
  obtain ⟨bm, es, a1, a2, a3, a4, a5, a6⟩ := h
  have hown : Own WK 23 w (getV es c (.slice none 0 0)) (T c) := by
    rcases getV_cases es c (.slice none 0 0) with hm | ⟨hz, hn⟩
    · exact a3 _ hm
    · rw [hz, a4 c hn]; exact Own.nil _ _ _
  have hF : ∀ g, (getV es c (.slice none 0 0)).ownBlock = some g → F g := by
    intro g hg
    rcases getV_cases es c (.slice none 0 0) with hm | ⟨hz, _⟩
    · exact (a6 g).2 (.inr ⟨_, hm, hg⟩)
    · rw [hz] at hg; simp [Value.ownBlock] at hg
  refine ⟨bm, getV es c (.slice none 0 0), (blk_cell a1 0).trans rfl, fun n => MapI.look (w := w.drewN n) mapW a2 c, hown, hF, ?_⟩
  intro w1 v' l' hk hown' hblk
  have hbm : ¬ ((getV es c (.slice none 0 0)).ownBlock = some bm) := by
    intro hb
    obtain ⟨arr, clk, h2', _⟩ := a2
    rcases hown with ⟨hv, _⟩ | ⟨g, cap, cur, hv, hb', _⟩
    · rw [hv] at hb; simp [Value.ownBlock] at hb
    · rw [hv] at hb
      simp [Value.ownBlock] at hb
      subst hb
      rw [h2'] at hb'
      simp at hb'
  have hM1 : MapI w1 bm es := a2.kp hk hbm
  obtain ⟨w2, hr, hM2, hk2⟩ := hM1.upd mapW c v'
  have hnd : (es.map (·.1)).Nodup := let ⟨_, _, _, _, h, _⟩ := a2; h
  have hv'bm : ¬ (v'.ownBlock = some bm) := fun e => by
    rcases hblk bm e with h | h
    · exact hbm h
    · have := hlt.2 bm ((a6 bm).2 (.inl rfl)); omega
  have hkF : Kp F w w2 := (hk.mono fun k _ hk' => hF k hk').trans' hk2 fun k hk' e => by subst e; exact (a6 k).2 (.inl rfl)
  refine ⟨w2, fun b => b = bm ∨ ∃ x ∈ updV es c v', x.2.ownBlock = some b, hr, ⟨bm, updV es c v', hkF.blk a1 hbt, hM2, ?_, ?_, ?_, fun b => Iff.rfl⟩, hkF, ?_⟩
  · intro x hx
    rcases (mem_updV hnd x).1 hx with rfl | ⟨hx', hne⟩
    · simp only [setT, if_true]
      exact hown'.kp hk2 fun g hg e => hv'bm (e ▸ hg)
    · simp only [setT, if_neg hne]
      refine (((a3 x hx').kp hk ?_)).kp hk2 ?_
      · intro g hg hg2
        rcases getV_cases es c (.slice none 0 0) with hm | ⟨hz, _⟩
        · exact hne (congrArg Prod.fst (a5 _ hx' _ hm g hg hg2))
        · rw [hz] at hg2; simp [Value.ownBlock] at hg2
      · rintro g hg rfl
        obtain ⟨arr, clk, h2', _⟩ := a2
        rcases a3 x hx' with ⟨hv, _⟩ | ⟨g', cap, cur, hv, hb', _⟩
        · rw [hv] at hg; simp [Value.ownBlock] at hg
        · rw [hv] at hg
          simp [Value.ownBlock] at hg
          subst hg
          rw [h2'] at hb'
          simp at hb'
  · intro c' hc'
    have hcc : c' ≠ c := by
      rintro rfl
      exact hc' (List.mem_map.2 ⟨(c', v'), (mem_updV hnd _).2 (.inl rfl), rfl⟩)
    simp only [setT, if_neg hcc]
    refine a4 c' fun hm => hc' ?_
    obtain ⟨x, hx, rfl⟩ := List.mem_map.1 hm
    exact List.mem_map.2 ⟨x, (mem_updV hnd _).2 (.inr ⟨hx, hcc⟩), rfl⟩
  · intro x hx y hy g hgx hgy
    have key : ∀ z, z ∈ es → z.1 ≠ c → z.2.ownBlock = some g → v'.ownBlock = some g → False := by
      intro z hz hzc hzg hvg
      rcases hblk g hvg with h | h
      · rcases getV_cases es c (.slice none 0 0) with hm | ⟨hz', _⟩
        · exact hzc (congrArg Prod.fst (a5 _ hz _ hm g hzg h))
        · rw [hz'] at h; simp [Value.ownBlock] at h
      · have := (a3 z hz).lt hzg; omega
    rcases (mem_updV hnd x).1 hx with rfl | ⟨hx', hxc⟩ <;> rcases (mem_updV hnd y).1 hy with rfl | ⟨hy', hyc⟩
    · rfl
    · exact (key y hy' hyc hgy hgx).elim
    · exact (key x hx' hxc hgx hgy).elim
    · exact a5 x hx' y hy' g hgx hgy
  · intro k hk'
    rcases hk' with rfl | ⟨x, hx, hxk⟩
    · exact .inl ((a6 k).2 (.inl rfl))
    · rcases (mem_updV hnd x).1 hx with rfl | ⟨hx', _⟩
      · rcases hblk k hxk with h | h
        · exact .inl (hF k h)
        · exact .inr h
      · exact .inl ((a6 k).2 (.inr ⟨x, hx', hxk⟩))
end Go.Proofs.Ytihnbgokkhbjnaa
