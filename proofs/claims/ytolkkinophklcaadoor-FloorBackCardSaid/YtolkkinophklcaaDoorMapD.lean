/- Maps with int keys: delete, len; maps to bool as sets. -/
import Derived.Test.YtolkkinophklcaaDoorMap
namespace Go.Proofs.YtolkkinophklcaaDoor
set_option linter.unusedVariables false
set_option linter.unusedSimpArgs false
open Go.RowKit

theorem del_erase {c : Int} {u : Value} : ∀ {es : List (Int × Value)} {j : Nat}, (es.map (·.1)).Nodup → es[j]? = some (c, u) → delV es c = es.eraseIdx j
  | [], _, _, h => by simp at h
  | x :: xs, 0, hn, h => by
    simp at h
    subst h
    simp only [List.map_cons, List.nodup_cons] at hn
    unfold delV
    rw [List.filter_cons]
    simp only [beq_self_eq_true, Bool.not_true, Bool.false_eq_true, if_false, List.eraseIdx_cons_zero]
    rw [List.filter_eq_self]
    intro y hy
    have : y.1 ≠ c := fun e => hn.1 (by rw [← e]; exact List.mem_map_of_mem hy)
    simp [this]
  | x :: xs, j + 1, hn, h => by
    simp only [List.map_cons, List.nodup_cons] at hn
    have h2 : xs[j]? = some (c, u) := by simpa using h
    have hne : x.1 ≠ c := fun e => hn.1 (by rw [e]; exact List.mem_map_of_mem (f := (·.1)) (List.mem_of_getElem? h2))
    unfold delV
    rw [List.filter_cons, if_pos (by simp [hne]), List.eraseIdx_cons_succ]
    exact congrArg _ (del_erase hn.2 h2)
theorem del_none {c : Int} {es : List (Int × Value)} (h : c ∉ es.map (·.1)) : delV es c = es := by
  unfold delV
  rw [List.filter_eq_self]
  intro y hy
  have : y.1 ≠ c := fun e => h (by rw [← e]; exact List.mem_map_of_mem hy)
  simp [this]

theorem map_eraseIdx' {α β : Type} (f : α → β) : ∀ (l : List α) (i : Nat), (l.eraseIdx i).map f = (l.map f).eraseIdx i
  | [], _ => rfl
  | _ :: _, 0 => rfl
  | x :: xs, i + 1 => congrArg (f x :: ·) (map_eraseIdx' f xs i)
section
variable {P : Program} {w w' : World} {bm : Nat} {es : List (Int × Value)} {tm k e : TypeId}
theorem MapI.del {z : Value} (T : MapT P tm k e z) (h : MapI w bm es) (c : Int) :
    ∃ w', (∀ ty, (Builtin.delete_ #[tm, k] ty #[.map (some bm), .int .i64 c]).run P w = .ok (.tuple #[]) w') ∧ MapI w' bm (delV es c) ∧ Kp (fun j => j = bm) w w' := by
  obtain ⟨arr, clk, hb, hm, hnd, hborn, hbn⟩ := h
  have hlt := lt_of_block hb
  have hf := findNow_I c arr.toList es 0 hm
  have hck := run_checkKey (P := P) (k := k) T.key arr.isEmpty 9999 c w
  cases hr : findI c es 0 with
  | none =>
    rw [hr] at hf
    obtain ⟨hnc, _⟩ := findI_none hr
    refine ⟨{ w with heap := w.heap.setIfInBounds bm (.map arr clk) }, fun ty => ?_, ?_, (Kp.refl (fun j => j = bm) w).setBlk (fun _ => rfl) _⟩
    · simp only [Builtin.delete_, Instr.findKey]
      simp [run_underlying T.und, run_underlying T.key, MapKept.run_getObj_map hb, hck, hf]
      simp [setObj, Sem.run, hb]
    · rw [del_none hnc]
      exact ⟨arr, clk, by simp [hlt], hm, hnd, hborn, hbn⟩
  | some r =>
    obtain ⟨j, u⟩ := r
    rw [hr] at hf
    obtain ⟨hj, _⟩ := findI_some hr
    have hjs : j < arr.size := by
      have h1 : j < es.length := (List.getElem?_eq_some_iff.1 hj).1
      have h2 := congrArg List.length hm
      simp at h2
      omega
    have hl : (arr.eraseIdxIfInBounds j).toList = arr.toList.eraseIdx j := by
      unfold Array.eraseIdxIfInBounds
      rw [dif_pos hjs]
      simp
    refine ⟨{ w with heap := w.heap.setIfInBounds bm (.map (arr.eraseIdxIfInBounds j) clk) }, fun ty => ?_, ?_, (Kp.refl (fun j => j = bm) w).setBlk (fun _ => rfl) _⟩
    · simp only [Builtin.delete_, Instr.findKey]
      simp [run_underlying T.und, run_underlying T.key, MapKept.run_getObj_map hb, hck, hf]
      simp [setObj, Sem.run, hb]
    · rw [del_erase hnd hj]
      refine ⟨_, _, by simp [hlt]; exact ⟨rfl, rfl⟩, ?_, ?_, ?_, ?_⟩
      · rw [hl, map_eraseIdx', map_eraseIdx', hm]
      · rw [map_eraseIdx']; exact hnd.sublist (List.eraseIdx_sublist _ _)
      · intro e he; rw [hl] at he; exact hborn e ((List.eraseIdx_sublist _ _).subset he)
      · rw [hl, map_eraseIdx']; exact hbn.sublist (List.eraseIdx_sublist _ _)
theorem MapI.len {z : Value} (T : MapT P tm k e z) (h : MapI w bm es) (ty : TypeId) : (Builtin.len_ #[tm] ty #[.map (some bm)]).run P w = .ok (goInt es.length) w := by
  obtain ⟨arr, clk, hb, hm, _⟩ := h
  have h2 := congrArg List.length hm
  simp at h2
  simp [Builtin.len_, run_underlying T.und, MapKept.run_getObj_map hb, h2]

/-! ### Sets of ints -/
def SetI (w : World) (bm : Nat) (L : List Int) : Prop := MapI w bm (L.map fun x => (x, Value.bool true))
theorem SetI.kp {S : Nat → Prop} {L : List Int} (h : SetI w bm L) (hk : Kp S w w') (hn : ¬ S bm) : SetI w' bm L := MapI.kp h hk hn
theorem SetI.made (w : World) : SetI (w.alloc (.map #[] 0)) w.heap.size [] := MapI.made w
theorem findI_set (c : Int) : ∀ (L : List Int) (i : Nat), (findI c (L.map fun x => (x, Value.bool true)) i).map (·.2) = if c ∈ L then some (Value.bool true) else none
  | [], i => rfl
  | x :: xs, i => by
    simp only [List.map_cons, findI]
    by_cases h : c = x
    · subst h; simp
    · rw [if_neg (by simpa using h), findI_set c xs (i + 1)]; simp [h]
theorem getV_set (c : Int) (L : List Int) : getV (L.map fun x => (x, Value.bool true)) c (.bool false) = .bool (decide (c ∈ L)) := by
  unfold getV
  rw [findI_set]
  by_cases h : c ∈ L
  · rw [if_pos h, decide_eq_true h]; rfl
  · rw [if_neg h, decide_eq_false h]; rfl
def addS (L : List Int) (c : Int) : List Int := if c ∈ L then L else L ++ [c]
theorem updV_set (c : Int) : ∀ (L : List Int), updV (L.map fun x => (x, Value.bool true)) c (.bool true) = (addS L c).map fun x => (x, Value.bool true)
  | [] => rfl
  | x :: xs => by
    simp only [List.map_cons, updV]
    by_cases h : c = x
    · subst h; simp [addS]
    · rw [if_neg (by simpa using h), updV_set c xs]
      unfold addS
      by_cases h2 : c ∈ xs
      · simp [h, h2]
      · simp [h, h2]
theorem delV_set (c : Int) (L : List Int) : delV (L.map fun x => (x, Value.bool true)) c = (L.filter fun x => x != c).map fun x => (x, Value.bool true) := by
  unfold delV
  rw [List.filter_map]
  rfl
theorem SetI.look {L : List Int} (T : MapT P tm k e (.bool false)) (h : SetI w bm L) (c : Int) : (Instr.lookup tm (.map (some bm)) (.int .i64 c) false).run P w = .ok (.bool (decide (c ∈ L))) w := by rw [← getV_set]; exact MapI.look T h c
theorem SetI.add {L : List Int} (T : MapT P tm k e (.bool false)) (h : SetI w bm L) (c : Int) : ∃ w', (Instr.mapUpdate tm (.map (some bm)) (.int .i64 c) (.bool true)).run P w = .ok () w' ∧ SetI w' bm (addS L c) ∧ Kp (fun j => j = bm) w w' := by
  obtain ⟨w', h1, h2, h3⟩ := MapI.upd T h c (.bool true)
  exact ⟨w', h1, by unfold SetI; rw [← updV_set]; exact h2, h3⟩
theorem SetI.del {L : List Int} (T : MapT P tm k e (.bool false)) (h : SetI w bm L) (c : Int) : ∃ w', (∀ ty, (Builtin.delete_ #[tm, k] ty #[.map (some bm), .int .i64 c]).run P w = .ok (.tuple #[]) w') ∧ SetI w' bm (L.filter fun x => x != c) ∧ Kp (fun j => j = bm) w w' := by
  obtain ⟨w', h1, h2, h3⟩ := MapI.del T h c
  exact ⟨w', h1, by unfold SetI; rw [← delV_set]; exact h2, h3⟩
theorem SetI.len {L : List Int} (T : MapT P tm k e (.bool false)) (h : SetI w bm L) (ty : TypeId) : (Builtin.len_ #[tm] ty #[.map (some bm)]).run P w = .ok (goInt L.length) w := by
  have := MapI.len T h ty
  rwa [List.length_map] at this
theorem SetI.lt {L : List Int} (h : SetI w bm L) : bm < w.heap.size := MapI.lt h
end
end Go.Proofs.YtolkkinophklcaaDoor
