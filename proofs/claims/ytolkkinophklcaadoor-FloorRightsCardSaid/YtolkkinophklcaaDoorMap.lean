/- Maps with int keys: what a map holds, look-up, store, delete, len. No function of the program. -/
import Derived.Test.YtolkkinophklcaaDoorGen
import Derived.Maps.RangeRun
namespace Go.Proofs.YtolkkinophklcaaDoor
set_option linter.unusedVariables false
set_option linter.unusedSimpArgs false
open Go.RowKit

/-- Map bm holds es, in this order. -/
def MapI (w : World) (bm : Nat) (es : List (Int × Value)) : Prop :=
  ∃ arr clk, w.heap[bm]? = some (.map arr clk) ∧ arr.toList.map (fun e => (e.key, e.val)) = es.map (fun x => (Value.int .i64 x.1, x.2)) ∧ (es.map (·.1)).Nodup ∧ (∀ e ∈ arr.toList, e.born < clk) ∧ (arr.toList.map (·.born)).Nodup

def findI (c : Int) : List (Int × Value) → Nat → Option (Nat × Value)
  | [], _ => none
  | x :: xs, i => if c == x.1 then some (i, x.2) else findI c xs (i + 1)
def getV (es : List (Int × Value)) (c : Int) (z : Value) : Value := ((findI c es 0).map (·.2)).getD z
def hasV (es : List (Int × Value)) (c : Int) : Bool := (findI c es 0).isSome
def updV : List (Int × Value) → Int → Value → List (Int × Value)
  | [], c, v => [(c, v)]
  | x :: xs, c, v => if c == x.1 then (c, v) :: xs else x :: updV xs c v
def delV (es : List (Int × Value)) (c : Int) : List (Int × Value) := es.filter (fun x => !(x.1 == c))

theorem findI_shift (c : Int) (xs : List (Int × Value)) (i : Nat) : findI c xs i = (findI c xs 0).map fun r => (i + r.1, r.2) := by
  induction xs generalizing i with
  | nil => rfl
  | cons x xs ih =>
    unfold findI
    split
    · simp
    · rw [ih (i + 1), ih (0 + 1)]
      cases findI c xs 0 with
      | none => rfl
      | some r => simp; omega

theorem findNow_I (c : Int) : ∀ (es : List MapEntry) (xs : List (Int × Value)) (i : Nat), es.map (fun e => (e.key, e.val)) = xs.map (fun x => (Value.int .i64 x.1, x.2)) →
    Instr.findNow (.int .i64) (.int .i64 c) es i = some (findI c xs i)
  | [], [], _, _ => rfl
  | [], x :: xs, _, h => by simp at h
  | e :: es, [], _, h => by simp at h
  | e :: es, x :: xs, i, h => by
    simp only [List.map_cons, List.cons.injEq, Prod.mk.injEq] at h
    obtain ⟨⟨h1, h2⟩, h3⟩ := h
    have ih := findNow_I c es xs (i + 1) h3
    simp only [Instr.findNow, h1, h2, Instr.sameNow, findI, if_true]
    by_cases hc : c = x.1
    · simp [hc]
    · have hcb : (c == x.1) = false := by simp [hc]
      simp [hcb, ih]

section
variable {P : Program} {tm k e : TypeId} {w : World} {bm : Nat} {es : List (Int × Value)}

structure MapT (P : Program) (tm k e : TypeId) (z : Value) : Prop where
  und : P.underlying tm = some (.map k e)
  key : P.underlying k = some (.int .i64)
  zero : ∀ w, (zeroValue e).run P w = .ok z w

theorem MapI.heap (h : MapI w bm es) : ∃ o, w.heap[bm]? = some o := let ⟨_, _, h1, _⟩ := h; ⟨_, h1⟩
theorem MapI.lt (h : MapI w bm es) : bm < w.heap.size := let ⟨_, _, h1, _⟩ := h; lt_of_block h1
theorem MapI.kp {w' : World} {S : Nat → Prop} (h : MapI w bm es) (hk : Kp S w w') (hn : ¬ S bm) : MapI w' bm es :=
  let ⟨arr, clk, h1, h2⟩ := h
  ⟨arr, clk, hk.blk h1 hn, h2⟩
theorem MapI.made (w : World) : MapI (w.alloc (.map #[] 0)) w.heap.size [] := ⟨#[], 0, blk_new w _, rfl, by simp, by simp, by simp⟩

theorem run_checkKey (hk : P.underlying k = some (.int .i64)) (b : Bool) (n : Nat) (c : Int) (w : World) : (Instr.checkKey b (n + 1) k (.int .i64 c)).run P w = .ok () w := by
  simp [Instr.checkKey, run_underlying hk]

theorem MapI.look {z : Value} (T : MapT P tm k e z) (h : MapI w bm es) (c : Int) : (Instr.lookup tm (.map (some bm)) (.int .i64 c) false).run P w = .ok (getV es c z) w := by
  obtain ⟨arr, clk, hb, hm, _⟩ := h
  have hf := findNow_I c arr.toList es 0 hm
  have hck := run_checkKey (P := P) (k := k) T.key arr.isEmpty 9999 c w
  simp only [Instr.lookup, Instr.findKey]
  simp [run_underlying T.und, run_underlying T.key, MapKept.run_getObj_map hb, hck, hf]
  cases hr : findI c es 0 with
  | none => simp [getV, hr, T.zero w]
  | some r => simp [getV, hr]

theorem MapI.lookOk {z : Value} (T : MapT P tm k e z) (h : MapI w bm es) (c : Int) : (Instr.lookup tm (.map (some bm)) (.int .i64 c) true).run P w = .ok (.tuple #[getV es c z, .bool (hasV es c)]) w := by
  obtain ⟨arr, clk, hb, hm, _⟩ := h
  have hf := findNow_I c arr.toList es 0 hm
  have hck := run_checkKey (P := P) (k := k) T.key arr.isEmpty 9999 c w
  simp only [Instr.lookup, Instr.findKey]
  simp [run_underlying T.und, run_underlying T.key, MapKept.run_getObj_map hb, hck, hf]
  cases hr : findI c es 0 with
  | none => simp [getV, hasV, hr, T.zero w]
  | some r => simp [getV, hasV, hr]

theorem findI_some {c : Int} {xs : List (Int × Value)} {j : Nat} {u : Value} (h : findI c xs 0 = some (j, u)) : xs[j]? = some (c, u) ∧ ∀ v, updV xs c v = xs.set j (c, v) := by
  induction xs generalizing j with
  | nil => simp [findI] at h
  | cons x xs ih =>
    unfold findI at h
    by_cases hc : c = x.1
    · simp [hc] at h
      obtain ⟨rfl, rfl⟩ := h
      refine ⟨by simp [hc], fun v => by simp [updV, hc]⟩
    · simp only [beq_eq_false_iff_ne.2 hc] at h
      rw [findI_shift] at h
      simp only [Bool.false_eq_true, if_false, Option.map_eq_some_iff, Prod.mk.injEq, Prod.exists] at h
      obtain ⟨a, b, hr, rfl, rfl⟩ := h
      obtain ⟨i1, i2⟩ := ih hr
      refine ⟨by rw [Nat.add_comm]; simpa using i1, fun v => ?_⟩
      rw [Nat.add_comm]
      simp [updV, hc, i2 v]

theorem findI_none {c : Int} {xs : List (Int × Value)} (h : findI c xs 0 = none) : c ∉ xs.map (·.1) ∧ ∀ v, updV xs c v = xs ++ [(c, v)] := by
  induction xs with
  | nil => simp [updV]
  | cons x xs ih =>
    unfold findI at h
    by_cases hc : c = x.1
    · simp [hc] at h
    · simp only [beq_eq_false_iff_ne.2 hc] at h
      rw [findI_shift] at h
      simp only [Bool.false_eq_true, if_false, Option.map_eq_none_iff] at h
      obtain ⟨i1, i2⟩ := ih h
      refine ⟨by simp only [List.map_cons, List.mem_cons, not_or]; exact ⟨hc, i1⟩, fun v => by simp [updV, hc, i2 v]⟩

theorem MapI.upd {z : Value} (T : MapT P tm k e z) (h : MapI w bm es) (c : Int) (v : Value) :
    ∃ w', (Instr.mapUpdate tm (.map (some bm)) (.int .i64 c) v).run P w = .ok () w' ∧ MapI w' bm (updV es c v) ∧ Kp (fun j => j = bm) w w' := by
  obtain ⟨arr, clk, hb, hm, hnd, hborn, hbn⟩ := h
  have hlt := lt_of_block hb
  have hf := findNow_I c arr.toList es 0 hm
  have hck := run_checkKey (P := P) (k := k) T.key false 9999 c w
  cases hr : findI c es 0 with
  | none =>
    rw [hr] at hf
    obtain ⟨hnc, hu⟩ := findI_none hr
    refine ⟨{ w with heap := w.heap.setIfInBounds bm (.map (arr.push ⟨.int .i64 c, v, clk⟩) (clk + 1)) }, ?_, ?_, (Kp.refl (fun j => j = bm) w).setBlk (fun _ => rfl) _⟩
    · simp only [Instr.mapUpdate, Instr.findKey]
      simp [run_underlying T.und, run_underlying T.key, MapKept.run_getObj_map hb, hck, hf]
      simp [setObj, Sem.run, hb]
    · refine ⟨_, _, by simp [hlt]; exact ⟨rfl, rfl⟩, ?_, ?_, ?_, ?_⟩
      · simp [hu, hm]
      · rw [hu, List.map_append, List.nodup_append]
        refine ⟨hnd, by simp, ?_⟩
        intro a ha b hb' hab
        simp at hb'
        subst hb' hab
        exact hnc ha
      · intro e he
        simp at he
        rcases he with he | rfl
        · have := hborn e (by simpa using he); omega
        · simp
      · simp only [Array.toList_push, List.map_append, List.map_cons, List.map_nil]
        rw [List.nodup_append]
        refine ⟨hbn, by simp, ?_⟩
        intro a ha b hb' hab
        simp at hb'
        subst hb' hab
        obtain ⟨e, he, rfl⟩ := List.mem_map.1 ha
        have := hborn e he
        omega
  | some r =>
    obtain ⟨j, u⟩ := r
    rw [hr] at hf
    obtain ⟨hj, hu⟩ := findI_some hr
    obtain ⟨e0, he0, hek⟩ : ∃ e0, arr[j]? = some e0 ∧ e0.key = .int .i64 c := by
      have : (arr.toList.map (fun e => (e.key, e.val)))[j]? = some (Value.int .i64 c, u) := by rw [hm]; simp [hj]
      rw [List.getElem?_map] at this
      simp only [Option.map_eq_some_iff, Prod.mk.injEq] at this
      obtain ⟨e0, h1, h2, _⟩ := this
      exact ⟨e0, by simpa using h1, h2⟩
    have hjl : j < arr.size := (Array.getElem?_eq_some_iff.1 he0).1
    have hje : arr[j] = e0 := (Array.getElem?_eq_some_iff.1 he0).2
    have hkts : (Instr.keyThatStays (.int .i64 c) (.int .i64 c)).run P w = .ok (.int .i64 c) w := by simp [Instr.keyThatStays, Instr.sameBits]
    refine ⟨{ w with heap := w.heap.setIfInBounds bm (.map (arr.modify j fun e => { e with key := .int .i64 c, val := v }) clk) }, ?_, ?_, (Kp.refl (fun j => j = bm) w).setBlk (fun _ => rfl) _⟩
    · simp only [Instr.mapUpdate, Instr.findKey]
      simp [run_underlying T.und, run_underlying T.key, MapKept.run_getObj_map hb, hck, hf, he0, hek, hkts]
      simp [setObj, Sem.run, hb]
    · have hl : (arr.modify j fun e => { e with key := .int .i64 c, val := v }).toList = arr.toList.set j { e0 with key := .int .i64 c, val := v } := by
        apply List.ext_getElem?
        intro i
        rw [Array.getElem?_toList, Array.getElem?_modify, List.getElem?_set]
        by_cases hij : j = i
        · subst hij; simp [hje, hjl]
        · simp [hij]
      refine ⟨_, _, by simp [hlt]; exact ⟨rfl, rfl⟩, ?_, ?_, ?_, ?_⟩
      · rw [hl, List.map_set, hm, hu, List.map_set]
      · rw [hu, List.map_set]
        have : (es.map (·.1)).set j c = es.map (·.1) := by
          apply List.ext_getElem?
          intro i
          rw [List.getElem?_set]
          by_cases hij : j = i
          · subst hij; simp [hj]; exact (List.getElem?_eq_some_iff.1 hj).1
          · simp [hij]
        rw [this]; exact hnd
      · intro e he
        rw [hl] at he
        rcases List.mem_or_eq_of_mem_set he with h | rfl
        · exact hborn e h
        · exact hborn e0 (by simpa using Array.mem_of_getElem? he0)
      · rw [hl, List.map_set]
        have : (arr.toList.map (·.born)).set j e0.born = arr.toList.map (·.born) := by
          apply List.ext_getElem?
          intro i
          rw [List.getElem?_set]
          by_cases hij : j = i
          · subst hij; simp [hje, hjl]
          · simp [hij]
        rw [this]; exact hbn

/-! ### Ranging over a map -/

/-- Iterator r over map bm, that holds es; the entries of the keys 'done' have come. -/
def RangeI (w : World) (r bm : Nat) (es : List (Int × Value)) (done : List Int) : Prop :=
  ∃ arr clk seen since, w.heap[bm]? = some (.map arr clk) ∧ w.heap[r]? = some (.mapIter (some bm) since seen clk) ∧ arr.toList.map (fun e => (e.key, e.val)) = es.map (fun x => (Value.int .i64 x.1, x.2)) ∧ (es.map (·.1)).Nodup ∧
    (∀ e ∈ arr.toList, e.born < since) ∧ since ≤ clk ∧ (arr.toList.map (·.born)).Nodup ∧ ∀ e ∈ arr.toList, ∀ c, e.key = .int .i64 c → (seen.contains e.born = true ↔ c ∈ done)

theorem RangeI.map {r : Nat} {done : List Int} (h : RangeI w r bm es done) : MapI w bm es :=
  let ⟨arr, clk, _, _, h1, _, h3, h4, h5, h6, h7, _⟩ := h
  ⟨arr, clk, h1, h3, h4, fun e he => by have := h5 e he; omega, h7⟩
theorem RangeI.kp {w' : World} {S : Nat → Prop} {r : Nat} {done : List Int} (h : RangeI w r bm es done) (hk : Kp S w w') (h1 : ¬ S bm) (h2 : ¬ S r) : RangeI w' r bm es done :=
  let ⟨arr, clk, seen, since, a1, a2, a3⟩ := h
  ⟨arr, clk, seen, since, hk.blk a1 h1, hk.blk a2 h2, a3⟩
theorem RangeI.ne {r : Nat} {done : List Int} (h : RangeI w r bm es done) : r ≠ bm := by
  obtain ⟨arr, clk, seen, since, a1, a2, _⟩ := h
  rintro rfl
  rw [a1] at a2
  simp at a2
theorem RangeI.lt {r : Nat} {done : List Int} (h : RangeI w r bm es done) : r < w.heap.size := let ⟨_, _, _, _, _, a2, _⟩ := h; lt_of_block a2

theorem entry_of {arr : Array MapEntry} (hm : arr.toList.map (fun e => (e.key, e.val)) = es.map (fun x => (Value.int .i64 x.1, x.2))) {e : MapEntry} (he : e ∈ arr.toList) : ∃ x ∈ es, e.key = .int .i64 x.1 ∧ e.val = x.2 := by
  have : (e.key, e.val) ∈ es.map (fun x => (Value.int .i64 x.1, x.2)) := hm ▸ List.mem_map_of_mem (f := fun e : MapEntry => (e.key, e.val)) he
  obtain ⟨x, hx, hxe⟩ := List.mem_map.1 this
  simp only [Prod.mk.injEq] at hxe
  exact ⟨x, hx, hxe.1.symm, hxe.2.symm⟩
theorem of_entry {arr : Array MapEntry} (hm : arr.toList.map (fun e => (e.key, e.val)) = es.map (fun x => (Value.int .i64 x.1, x.2))) {x : Int × Value} (hx : x ∈ es) : ∃ e ∈ arr.toList, e.key = .int .i64 x.1 ∧ e.val = x.2 := by
  have : (Value.int .i64 x.1, x.2) ∈ arr.toList.map (fun e => (e.key, e.val)) := hm ▸ List.mem_map_of_mem (f := fun x : Int × Value => (Value.int .i64 x.1, x.2)) hx
  obtain ⟨e, he, hxe⟩ := List.mem_map.1 this
  simp only [Prod.mk.injEq] at hxe
  exact ⟨e, he, hxe⟩

theorem key_born {arr : Array MapEntry} (hm : arr.toList.map (fun e => (e.key, e.val)) = es.map (fun x => (Value.int .i64 x.1, x.2))) (hnd : (es.map (·.1)).Nodup) {e e' : MapEntry} (he : e ∈ arr.toList) (he' : e' ∈ arr.toList) {c : Int} (h1 : e.key = .int .i64 c) (h2 : e'.key = .int .i64 c) : e = e' := by
  obtain ⟨i, hi, rfl⟩ := List.getElem_of_mem he
  obtain ⟨j, hj, rfl⟩ := List.getElem_of_mem he'
  have key : ∀ (i : Nat) (hi : i < arr.toList.length), arr.toList[i].key = .int .i64 c → (es.map (·.1))[i]? = some c := by
    intro i hi h
    have h3 := congrArg (fun l => l[i]?) hm
    simp only [List.getElem?_map, List.getElem?_eq_getElem hi, Option.map_some, h] at h3
    cases hx : es[i]? with
    | none => rw [hx] at h3; simp at h3
    | some x => rw [hx] at h3; simp at h3; simp [hx, h3.1]
  have k1 := key i hi h1
  have k2 := key j hj h2
  have hli := (List.getElem?_eq_some_iff.1 k1).1
  have hlj := (List.getElem?_eq_some_iff.1 k2).1
  have e1 := (List.getElem?_eq_some_iff.1 k1).2
  have e2 := (List.getElem?_eq_some_iff.1 k2).2
  rcases Nat.lt_trichotomy i j with h | h | h
  · exact absurd (e1.trans e2.symm) (List.pairwise_iff_getElem.1 hnd i j hli hlj h)
  · subst h; rfl
  · exact absurd (e2.trans e1.symm) (List.pairwise_iff_getElem.1 hnd j i hlj hli h)

theorem MapI.range {z : Value} (T : MapT P tm k e z) (h : MapI w bm es) :
    (Instr.range tm (.map (some bm))).run P w = .ok (.pointer (some ⟨w.heap.size, 0, none⟩)) (w.alloc (.mapIter (some bm) ((h.choose_spec).choose) #[] ((h.choose_spec).choose))) ∧ RangeI (w.alloc (.mapIter (some bm) ((h.choose_spec).choose) #[] ((h.choose_spec).choose))) w.heap.size bm es [] := by
  obtain ⟨hb, hm, hnd, hborn, hbn⟩ := h.choose_spec.choose_spec
  refine ⟨run_range_map w tm k e bm _ _ T.und hb, _, _, #[], _, blk_alloc hb _, blk_new w _, hm, hnd, hborn, Nat.le_refl _, hbn, by simp⟩

theorem RangeI.next {r : Nat} {done : List Int} (ty : TypeId) (h : RangeI w r bm es done) :
    ((∀ x ∈ es, x.1 ∈ done) ∧ (Instr.next (.pointer (some ⟨r, 0, none⟩)) false ty).run P w = .ok (.tuple #[.bool false]) w) ∨
    ∃ x ∈ es, x.1 ∉ done ∧ ∃ w', (Instr.next (.pointer (some ⟨r, 0, none⟩)) false ty).run P w = .ok (.tuple #[.bool true, .int .i64 x.1, x.2]) w' ∧ RangeI w' r bm es (x.1 :: done) ∧ Kp (fun j => j = r) w w' ∧
      (Instr.entry (.pointer (some ⟨r, 0, none⟩))).run P w' = .ok (.tuple #[.int .i64 x.1, x.2]) w' := by
  have hrb := h.ne
  obtain ⟨arr, clk, seen, since, a1, a2, a3, a4, a5, a6, a7, a8⟩ := h
  rcases run_next_at (P := P) w ty r bm since clk seen arr clk a2 a1 a5 a6 with ⟨h0, hr⟩ | ⟨e, he, w1, hw1, hr⟩
  · refine .inl ⟨fun x hx => ?_, hr⟩
    obtain ⟨e, he, hk, _⟩ := of_entry a3 hx
    exact (a8 e he x.1 hk).1 (all_seen arr seen h0 e he)
  · obtain ⟨he1, he2⟩ := mem_left he
    obtain ⟨x, hx, hk, hv⟩ := entry_of a3 he1
    have hb1 : w1.heap[bm]? = some (.map arr clk) := by rcases hw1 with rfl | rfl <;> exact a1
    have hr1 : w1.heap[r]? = some (.mapIter (some bm) since seen clk) := by rcases hw1 with rfl | rfl <;> exact a2
    have hk1 : Kp (fun j => j = r) w w1 := by
      rcases hw1 with rfl | rfl
      · exact Kp.refl _ _
      · exact (Kp.refl _ _).drew
    have hkk : Kp (fun j => j = r) w (ChangeMaps.setBlock w1 r (.mapIter (some bm) since (seen.push e.born) clk)) := hk1.setBlk (fun _ => rfl) _
    have hb2 : (ChangeMaps.setBlock w1 r (.mapIter (some bm) since (seen.push e.born) clk)).heap[bm]? = some (.map arr clk) := by
      simp [ChangeMaps.setBlock, hrb, hb1]
    have hr2 : (ChangeMaps.setBlock w1 r (.mapIter (some bm) since (seen.push e.born) clk)).heap[r]? = some (.mapIter (some bm) since (seen.push e.born) clk) := by
      have := lt_of_block hr1
      simp [ChangeMaps.setBlock, this]
    refine .inr ⟨x, hx, fun hd => ?_, _, by rw [← hk, ← hv]; exact hr, ⟨arr, clk, seen.push e.born, since, hb2, hr2, a3, a4, a5, a6, a7, ?_⟩, hkk, ?_⟩
    · have := (a8 e he1 x.1 hk).2 hd
      rw [he2] at this
      cases this
    · intro e' he' c hc
      rw [contains_push, Bool.or_eq_true, a8 e' he' c hc, List.mem_cons]
      constructor
      · rintro (h | h)
        · exact .inr h
        · have hbe : e'.born = e.born := by simpa using h
          obtain rfl := born_inj a7 he' he1 hbe
          rw [hk] at hc
          simp at hc
          exact .inl hc.symm
      · rintro (rfl | h)
        · exact .inr (by rw [key_born a3 a4 he' he1 hc hk]; simp)
        · exact .inl h
    · have := run_entry_at (P := P) _ r bm since seen arr clk e hr2 hb2 he1 a7
      rw [this, hk, hv]

theorem RangeI.upd {z : Value} {r : Nat} {done : List Int} (T : MapT P tm k e z) (h : RangeI w r bm es done) (c : Int) (hc : c ∈ es.map (·.1)) (v : Value) :
    ∃ w', (Instr.mapUpdate tm (.map (some bm)) (.int .i64 c) v).run P w = .ok () w' ∧ RangeI w' r bm (updV es c v) done ∧ Kp (fun j => j = bm) w w' := by
  have hrb := h.ne
  obtain ⟨arr, clk, seen, since, hb, hit, hm, hnd, hborn, hsc, hbn, hseen⟩ := h
  have hlt := lt_of_block hb
  have hf := findNow_I c arr.toList es 0 hm
  have hck := run_checkKey (P := P) (k := k) T.key false 9999 c w
  cases hr : findI c es 0 with
  | none => exact absurd hc (findI_none hr).1
  | some q =>
    obtain ⟨j, u⟩ := q
    rw [hr] at hf
    obtain ⟨hj, hu⟩ := findI_some hr
    obtain ⟨e0, he0, hek⟩ : ∃ e0, arr[j]? = some e0 ∧ e0.key = .int .i64 c := by
      have : (arr.toList.map (fun e => (e.key, e.val)))[j]? = some (Value.int .i64 c, u) := by rw [hm]; simp [hj]
      rw [List.getElem?_map] at this
      simp only [Option.map_eq_some_iff, Prod.mk.injEq] at this
      obtain ⟨e0, h1, h2, _⟩ := this
      exact ⟨e0, by simpa using h1, h2⟩
    have hjl : j < arr.size := (Array.getElem?_eq_some_iff.1 he0).1
    have hje : arr[j] = e0 := (Array.getElem?_eq_some_iff.1 he0).2
    have hkts : (Instr.keyThatStays (.int .i64 c) (.int .i64 c)).run P w = .ok (.int .i64 c) w := by simp [Instr.keyThatStays, Instr.sameBits]
    have hl : (arr.modify j fun e => { e with key := .int .i64 c, val := v }).toList = arr.toList.set j { e0 with key := .int .i64 c, val := v } := by
      apply List.ext_getElem?
      intro i
      rw [Array.getElem?_toList, Array.getElem?_modify, List.getElem?_set]
      by_cases hij : j = i
      · subst hij; simp [hje, hjl]
      · simp [hij]
    have he0m : e0 ∈ arr.toList := by simpa using Array.mem_of_getElem? he0
    refine ⟨{ w with heap := w.heap.setIfInBounds bm (.map (arr.modify j fun e => { e with key := .int .i64 c, val := v }) clk) }, ?_, ?_, (Kp.refl (fun j => j = bm) w).setBlk (fun _ => rfl) _⟩
    · simp only [Instr.mapUpdate, Instr.findKey]
      simp [run_underlying T.und, run_underlying T.key, MapKept.run_getObj_map hb, hck, hf, he0, hek, hkts]
      simp [setObj, Sem.run, hb]
    · refine ⟨arr.modify j fun e => { e with key := .int .i64 c, val := v }, clk, seen, since, by simp [hlt], by simp [Ne.symm hrb, hit], ?_, ?_, ?_, hsc, ?_, ?_⟩
      · rw [hl, List.map_set, hm, hu, List.map_set]
      · rw [hu, List.map_set]
        have : (es.map (·.1)).set j c = es.map (·.1) := by
          apply List.ext_getElem?
          intro i
          rw [List.getElem?_set]
          by_cases hij : j = i
          · subst hij; simp [hj]; exact (List.getElem?_eq_some_iff.1 hj).1
          · simp [hij]
        rw [this]; exact hnd
      · intro e he
        rw [hl] at he
        rcases List.mem_or_eq_of_mem_set he with h | rfl
        · exact hborn e h
        · exact hborn e0 he0m
      · rw [hl, List.map_set]
        have : (arr.toList.map (·.born)).set j e0.born = arr.toList.map (·.born) := by
          apply List.ext_getElem?
          intro i
          rw [List.getElem?_set]
          by_cases hij : j = i
          · subst hij; simp [hje, hjl]
          · simp [hij]
        rw [this]; exact hbn
      · intro e he c' hc'
        rw [hl] at he
        rcases List.mem_or_eq_of_mem_set he with h | rfl
        · exact hseen e h c' hc'
        · simp only at hc'
          exact hseen e0 he0m c' (hek.trans hc')
end
end Go.Proofs.YtolkkinophklcaaDoor
