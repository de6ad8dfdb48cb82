/- Take; Drop; Free; Forget; Plain laws of lists of windows: what Take, Drop and Forget keep. No program; Same; the examples (shown); The examples of the document (shown); Windows, plain: how long they are together; the free ones. No program; WindowEither: plain laws; The document's table (carfaxref06): Right, Taken, Free, Is; The document's table (carfaxref06): Free, Is, Right; Slices in new memory; The document's table (carfaxref06): Forget, Drop; The document's table (carfaxref06): Take; The document's table (carfaxref06): plain laws; Ways through time, plain: stays, and the search for them. No function of the program. No condition. -/
import Derived.Test.YtgdokpfepfmbmaaDoorM1
import Derived.Deep.RegionHeld3
import Derived.Deep.LoopGhost

namespace Go.Proofs.YtgdokpfepfmbmaaDoor
set_option linter.unusedVariables false
set_option linter.unusedSimpArgs false
open Go.RowKit

theorem right_b (a b : Int) (w : World) (v : Bool) (hv : v = decide (0 ≤ a ∧ a < b ∧ b ≤ 1048576)) :
    Calls Tryd.prog 43 #[.agg #[.int .i64 a, .int .i64 b]] w fun e w' => e = .returned (.bool v) ∧ w' = w.alloc (.cells #[.int .i64 a, .int .i64 b] 43) := by
  subst hv; exact wdright_any a b w

def takeE (l : List (Int × Int)) (a b : Int) : Int :=
  if ¬(0 ≤ a ∧ a < b ∧ b ≤ 1048576) then 1 else if (match l[place l a]? with | some x => decide (x.1 < b) | none => false) then 3 else if 4096 ≤ l.length then 4 else 0
def takeT (T : Int → List (Int × Int)) (c a b : Int) : Int → List (Int × Int) := if takeE (T c) a b = 0 then setT T c (insL (T c) (place (T c) a) (a, b)) else T

/-- The table is another one behind the call. -/
def TabTo (bt : Nat) (T' : Int → List (Int × Int)) (F : Nat → Prop) (w w' : World) : Prop := ∃ F', RepT w' bt T' F' ∧ Kp F w w' ∧ ∀ k, F' k → F k ∨ w.heap.size ≤ k

theorem TabTo.same {w w' : World} {bt : Nat} {T : Int → List (Int × Int)} {F : Nat → Prop} (h : RepT w bt T F) (hk : Kp No w w') : TabTo bt T F w w' :=
  ⟨F, h.kpNo hk, hk.mono fun _ _ h => h.elim, fun _ h => .inl h⟩

theorem Kp.ofDrew {S : Nat → Prop} {w w' : World} (h : Kp S w.drew w') : Kp S w w' := ⟨h.os, h.tape, h.output, h.size, h.block⟩
theorem OwnB.one (w : World) (a b : Int) : OwnB WK 43 (w.alloc (.cells #[.int .i64 a, .int .i64 b] 43)) w.heap.size 1 [(a, b)] := ⟨_, blk_new w _, by simp, rfl, rfl⟩

/-- What is known behind the call of Insert, in Take. -/
theorem take_mid {w w2 wd w4 : World} {bt bm : Nat} {T : Int → List (Int × Int)} {F : Nat → Prop} {c a b : Int} {v v' : Value} {l' : List (Int × Int)}
    (hk : Kp No w w2) (hkd : Kp No w2 wd) (hs : ∀ w1 v' l', Kp (fun k => v.ownBlock = some k) w2 w1 → Own WK 43 w1 v' l' → (∀ g, v'.ownBlock = some g → v.ownBlock = some g ∨ w2.heap.size ≤ g) →
        ∃ w5 F', (Instr.mapUpdate 94 (.map (some bm)) (.int .i64 c) v').run Tryd.prog w1 = .ok () w5 ∧ RepT w5 bt (setT T c l') F' ∧ Kp F w2 w5 ∧ ∀ k, F' k → F k ∨ w2.heap.size ≤ k)
    (hv : ∀ g, v.ownBlock = some g → F g) (hF : ∀ k, F k → k < w.heap.size) (hbn : ¬ F bt) (hbt : bt < w.heap.size)
    (c1 : w2.cell? ⟨bt, 0, none⟩ = some (.map (some bm))) (hP : w2.heap[w.heap.size]? = some (.cells #[.int .i64 a, .int .i64 b] 43 (0, 0)))
    (k1 : Own WK 43 w4 v' l') (k2 : Kp (fun k => v.ownBlock = some k) (wd.alloc (.cells #[.int .i64 a, .int .i64 b] 43)) w4) (k3 : ∀ g, v'.ownBlock = some g → v.ownBlock = some g ∨ (wd.alloc (.cells #[.int .i64 a, .int .i64 b] 43)).heap.size ≤ g) :
    (w4.cell? ⟨bt, 0, none⟩ = some (.map (some bm)) ∧ w4.cell? ⟨w.heap.size, 0, none⟩ = some (.int .i64 a) ∧ w4.cell? ⟨w.heap.size, 1, none⟩ = some (.int .i64 b)) ∧
    ∃ w5, (Instr.mapUpdate 94 (.map (some bm)) (.int .i64 c) v').run Tryd.prog w4 = .ok () w5 ∧ TabTo bt (setT T c l') F w w5 ∧
      (w5.cell? ⟨bt, 0, none⟩ = some (.map (some bm)) ∧ w5.cell? ⟨w.heap.size, 0, none⟩ = some (.int .i64 a) ∧ w5.cell? ⟨w.heap.size, 1, none⟩ = some (.int .i64 b)) := by
  have hkk : Kp (fun k => v.ownBlock = some k) w2 w4 := ((hkd.mono (fun _ _ h => h.elim)).alloc _).trans k2
  have hsz := hk.size
  have hsz2 := hkd.size
  obtain ⟨w5, F', r1, r2, r3, r4⟩ := hs w4 v' l' hkk k1 (fun g hg => (k3 g hg).imp id (fun h => by simp at h; omega))
  refine ⟨⟨hkk.cellS c1 fun h => hbn (hv bt h), hkk.cellS ((blk_cell hP 0).trans rfl) fun h => ?_, hkk.cellS ((blk_cell hP 1).trans rfl) fun h => ?_⟩, w5, r1, ⟨F', r2, (hk.mono (fun _ _ h => h.elim)).trans r3, fun k h => (r4 k h).imp id (fun h => by omega)⟩, r3.cellS c1 hbn, r3.cellS ((blk_cell hP 0).trans rfl) fun h => ?_, r3.cellS ((blk_cell hP 1).trans rfl) fun h => ?_⟩
  · have := hF _ (hv _ h); simp at this
  · have := hF _ (hv _ h); simp at this
  · have := hF _ h; simp at this
  · have := hF _ h; simp at this

set_option maxRecDepth 100000 in
theorem take_any {w : World} {bt : Nat} {T : Int → List (Int × Int)} {F : Nat → Prop} (h : RepT w bt T F) (hT : WFT T) (c a b : Int) :
    Calls Tryd.prog 19 #[.pointer (some ⟨bt, 0, none⟩), .int .i64 c, .agg #[.int .i64 a, .int .i64 b]] w fun e w' => e = .returned (.int .i64 (takeE (T c) a b)) ∧ TabTo bt (takeT T c a b) F w w' := by
  have HT := Lib.hid hT
  have HR := Lib.hid h
  clear hT
  by_cases hr : ¬ (0 ≤ a ∧ a < b ∧ b ≤ 1048576)
  · have he : takeE (T c) a b = 1 := by simp only [takeE, if_pos hr]
    have ht : takeT T c a b = T := by simp [takeT, he]
    rw [he, ht]
    have hr' := Lib.hid hr
    clear hr he ht h
    go_enter Tryd.func19, Tryd.ntmps19
    go_wp2_with (go_at_call 43; refine (right_b a b _ false (by simp [hr'.out])).mono ?_; rintro e w' ⟨rfl, rfl⟩)
    go_ret
    exact ⟨rfl, TabTo.same HR.out (((Kp.refl _ _).alloc _).alloc _)⟩
  have hr := Decidable.not_not.1 hr
  -- the world behind the two boxes
  have hk2 : Kp No w ((w.alloc (.cells #[.int .i64 a, .int .i64 b] 43)).alloc (.cells #[.int .i64 a, .int .i64 b] 43)) := ((Kp.refl _ _).alloc _).alloc _
  have hP : ((w.alloc (.cells #[.int .i64 a, .int .i64 b] 43)).alloc (.cells #[.int .i64 a, .int .i64 b] 43)).heap[w.heap.size]? = some (.cells #[.int .i64 a, .int .i64 b] 43 (0, 0)) := blk_alloc (blk_new _ _) _
  have hrt : Hid (true = decide (0 ≤ a ∧ a < b ∧ b ≤ 1048576)) := (by simp [hr] : true = decide _)
  have hE : takeE (T c) a b = (if (match (T c)[place (T c) a]? with | some x => decide (x.1 < b) | none => false) then 3 else if 4096 ≤ (T c).length then 4 else 0) := by
    simp only [takeE, if_neg (not_not_intro hr)]
  have h2 := h.kpNo hk2
  obtain ⟨bm, v, q1, q2, q3, q4, q5⟩ := h2.at c
  have q2 := q2 0
  change Sem.run _ _ ((w.alloc _).alloc _) = .ok v ((w.alloc _).alloc _) at q2
  have HR2 := Lib.hid h2
  have H := Lib.hid q3
  have HV := Lib.hid q4
  have HS := Lib.hid q5
  have HK := Lib.hid hk2
  have HP := Lib.hid hP
  obtain ⟨A, cap, rfl⟩ := q3.rd.shape
  have hle := place_le (T c) a
  have hbt := h.lt.1
  have HFL := Lib.hid h.lt.2
  have HBN := Lib.hid h2.bt_not
  clear hr h h2 q3 q4 q5 hk2 hP
  by_cases hlt : place (T c) a < (T c).length
  · obtain ⟨x, hx⟩ : ∃ x, (T c)[place (T c) a]? = some x := ⟨_, List.getElem?_eq_getElem hlt⟩
    rcases H.out with ⟨hv, he⟩ | ⟨g, cap', cur, hv, _⟩
    · rw [he] at hlt; simp at hlt
    simp only [Value.slice.injEq] at hv
    obtain ⟨rfl, _, rfl⟩ := hv
    have hltI : (place (T c) a : Int) < ((T c).length : Int) := by simpa using hlt
    by_cases hxb : x.1 < b
    · have he : takeE (T c) a b = 3 := by rw [hE, hx]; simp [hxb]
      have ht : takeT T c a b = T := by simp [takeT, he]
      rw [he, ht]
      have HX := Lib.hid hx
      have hxb' : decide (x.1 < b) = true := by simp [hxb]
      clear he ht hx hE
      go_enter Tryd.func19, Tryd.ntmps19
      go_wp2_with (first | (go_at_call 43; refine (right_b a b _ true hrt.out).mono ?_; rintro e w' ⟨rfl, rfl⟩) | (go_at_call 44; refine (place_any HR2.out HT.out c a).mono ?_; rintro e w3 ⟨rfl, hk⟩; obtain ⟨hc1, hc2⟩ := (H.out.rd.kpNo hk).winAt0 HX.out; have hc3 := (blk_cell (hk.blk HP.out (no_no _)) 1).trans rfl))
      go_quiet (fail)
      go_wp2
      go_ret
      exact ⟨rfl, TabTo.same HR.out ((HK.out.trans hk).drewN _)⟩
    · have hE : takeE (T c) a b = if 4096 ≤ (T c).length then 4 else 0 := by rw [hE, hx]; simp [hxb]
      have HX := Lib.hid hx
      have hxb' : decide (x.1 < b) = false := by simp [hxb]
      clear hx hxb
      by_cases hlen : 4096 ≤ (T c).length
      · have he : takeE (T c) a b = 4 := by rw [hE]; simp [hlen]
        have ht : takeT T c a b = T := by simp [takeT, he]
        rw [he, ht]
        clear he ht hE
        go_enter Tryd.func19, Tryd.ntmps19
        go_wp2_with (first | (go_at_call 43; refine (right_b a b _ true hrt.out).mono ?_; rintro e w' ⟨rfl, rfl⟩) | (go_at_call 44; refine (place_any HR2.out HT.out c a).mono ?_; rintro e w3 ⟨rfl, hk⟩; obtain ⟨hc1, hc2⟩ := (H.out.rd.kpNo hk).winAt0 HX.out; have hc3 := (blk_cell (hk.blk HP.out (no_no _)) 1).trans rfl))
        go_quiet (fail)
        go_wp2
        go_ret
        exact ⟨rfl, TabTo.same HR.out ((HK.out.trans hk).drewN _)⟩
      · have he : takeE (T c) a b = 0 := by rw [hE]; simp [hlen]
        have ht : takeT T c a b = setT T c (insL (T c) (place (T c) a) (a, b)) := by simp [takeT, he]
        rw [he, ht]
        clear he ht hE
        go_enter Tryd.func19, Tryd.ntmps19
        go_wp2_with (first | (go_at_call 43; refine (right_b a b _ true hrt.out).mono ?_; rintro e w' ⟨rfl, rfl⟩) | (go_at_call 44; refine (place_any HR2.out HT.out c a).mono ?_; rintro e w3 ⟨rfl, hk⟩; obtain ⟨hc1, hc2⟩ := (H.out.rd.kpNo hk).winAt0 HX.out; have hc3 := (blk_cell (hk.blk HP.out (no_no _)) 1).trans rfl))
        go_quiet (fail)
        go_wp2
        generalize hwd : w3.drewN _ = wd
        have hkd : Kp No ((w.alloc (.cells #[.int .i64 a, .int .i64 b] 43)).alloc (.cells #[.int .i64 a, .int .i64 b] 43)) wd := by rw [← hwd]; exact hk.drewN _
        have c1 := hkd.cellS q1 (no_no _)
        have HQ1 := Lib.hid q1
        have c2 : wd.cell? ⟨w.heap.size, 0, none⟩ = some (.int .i64 a) := hkd.cellS ((blk_cell HP.out 0).trans rfl) (no_no _)
        have c3 : wd.cell? ⟨w.heap.size, 1, none⟩ = some (.int .i64 b) := hkd.cellS ((blk_cell HP.out 1).trans rfl) (no_no _)
        have hz1 : bt < wd.heap.size := by have := hkd.size; simp at this; omega
        have hz2 : w.heap.size < wd.heap.size := by have := hkd.size; simp at this; omega
        have HD := Lib.hid hkd
        have hvne : Hid ((Value.slice (some ⟨g, 0, none⟩) (T c).length cap).ownBlock ≠ some wd.heap.size) := fun e => by have := HFL.out _ (HV.out _ e); omega
        have HOW := Lib.hid (H.out.kpNo hkd)
        clear hkd hwd hk hc1 hc2 hc3 q1
        go_region_held3 (fun w' => w'.cell? ⟨bt, 0, none⟩ = some (.map (some bm)) ∧ w'.cell? ⟨w.heap.size, 0, none⟩ = some (.int .i64 a) ∧ w'.cell? ⟨w.heap.size, 1, none⟩ = some (.int .i64 b)) (first | exact ⟨by assumption, by assumption, by assumption⟩ | simp [go_sem, World.cell?_alloc_past, *])
          (first
            | (go_at_call 45; refine (insert_any _ (T c) (a, b) _ _ (place (T c) a) hle (by exact HOW.out.alloc _) (Nat.le_trans (HT.out c).len (by decide)) (by exact OwnB.one wd a b) hvne.out _ rfl).mono ?_; rintro e w4 ⟨v', rfl, k1, k2, k3⟩; obtain ⟨⟨d1, d2, d3⟩, w5, hu, htab, e1, e2, e3⟩ := take_mid HK.out HD.out HS.out HV.out HFL.out HBN.out hbt HQ1.out HP.out k1 k2.ofDrew k3; have HTB := Lib.hid htab; clear k1 k2 k3 htab))
        go_wp2
        go_ret
        exact ⟨rfl, HTB.out⟩
  · have hpl : place (T c) a = (T c).length := by omega
    have hnone : (T c)[place (T c) a]? = none := by rw [hpl]; simp
    have hE : takeE (T c) a b = if 4096 ≤ (T c).length then 4 else 0 := by rw [hE, hnone]; simp
    have hltI : decide ((place (T c) a : Int) < ((T c).length : Int)) = false := by simp; omega
    clear hnone hpl
    by_cases hlen : 4096 ≤ (T c).length
    · have he : takeE (T c) a b = 4 := by rw [hE]; simp [hlen]
      have ht : takeT T c a b = T := by simp [takeT, he]
      rw [he, ht]
      clear he ht hE
      go_enter Tryd.func19, Tryd.ntmps19
      go_wp2_with (first | (go_at_call 43; refine (right_b a b _ true hrt.out).mono ?_; rintro e w' ⟨rfl, rfl⟩) | (go_at_call 44; refine (place_any HR2.out HT.out c a).mono ?_; rintro e w3 ⟨rfl, hk⟩; have hc3 := (blk_cell (hk.blk HP.out (no_no _)) 1).trans rfl))
      go_quiet (fail)
      go_wp2
      go_ret
      exact ⟨rfl, TabTo.same HR.out ((HK.out.trans hk).drewN _)⟩
    · have he : takeE (T c) a b = 0 := by rw [hE]; simp [hlen]
      have ht : takeT T c a b = setT T c (insL (T c) (place (T c) a) (a, b)) := by simp [takeT, he]
      rw [he, ht]
      clear he ht hE
      go_enter Tryd.func19, Tryd.ntmps19
      go_wp2_with (first | (go_at_call 43; refine (right_b a b _ true hrt.out).mono ?_; rintro e w' ⟨rfl, rfl⟩) | (go_at_call 44; refine (place_any HR2.out HT.out c a).mono ?_; rintro e w3 ⟨rfl, hk⟩; have hc3 := (blk_cell (hk.blk HP.out (no_no _)) 1).trans rfl))
      go_quiet (fail)
      go_wp2
      generalize hwd : w3.drewN _ = wd
      have hkd : Kp No ((w.alloc (.cells #[.int .i64 a, .int .i64 b] 43)).alloc (.cells #[.int .i64 a, .int .i64 b] 43)) wd := by rw [← hwd]; exact hk.drewN _
      have c1 := hkd.cellS q1 (no_no _)
      have HQ1 := Lib.hid q1
      have c2 : wd.cell? ⟨w.heap.size, 0, none⟩ = some (.int .i64 a) := hkd.cellS ((blk_cell HP.out 0).trans rfl) (no_no _)
      have c3 : wd.cell? ⟨w.heap.size, 1, none⟩ = some (.int .i64 b) := hkd.cellS ((blk_cell HP.out 1).trans rfl) (no_no _)
      have hz1 : bt < wd.heap.size := by have := hkd.size; simp at this; omega
      have hz2 : w.heap.size < wd.heap.size := by have := hkd.size; simp at this; omega
      have HD := Lib.hid hkd
      have hvne : Hid ((Value.slice A (T c).length cap).ownBlock ≠ some wd.heap.size) := fun e => by have := HFL.out _ (HV.out _ e); omega
      have HOW := Lib.hid (H.out.kpNo hkd)
      clear hkd hwd hk hc3 q1
      go_region_held3 (fun w' => w'.cell? ⟨bt, 0, none⟩ = some (.map (some bm)) ∧ w'.cell? ⟨w.heap.size, 0, none⟩ = some (.int .i64 a) ∧ w'.cell? ⟨w.heap.size, 1, none⟩ = some (.int .i64 b)) (first | exact ⟨by assumption, by assumption, by assumption⟩ | simp [go_sem, World.cell?_alloc_past, *])
        (first
          | (go_at_call 45; refine (insert_any _ (T c) (a, b) _ _ (place (T c) a) hle (by exact HOW.out.alloc _) (Nat.le_trans (HT.out c).len (by decide)) (by exact OwnB.one wd a b) hvne.out _ rfl).mono ?_; rintro e w4 ⟨v', rfl, k1, k2, k3⟩; obtain ⟨⟨d1, d2, d3⟩, w5, hu, htab, e1, e2, e3⟩ := take_mid HK.out HD.out HS.out HV.out HFL.out HBN.out hbt HQ1.out HP.out k1 k2.ofDrew k3; have HTB := Lib.hid htab; clear k1 k2 k3 htab))
      go_wp2
      go_ret
      exact ⟨rfl, HTB.out⟩
end Go.Proofs.YtgdokpfepfmbmaaDoor

namespace Go.Proofs.YtgdokpfepfmbmaaDoor
set_option linter.unusedVariables false
set_option linter.unusedSimpArgs false
open Go.RowKit

def dropT (T : Int → List (Int × Int)) (c : Int) (x : Int × Int) : Int → List (Int × Int) := if x ∈ T c then setT T c ((T c).eraseIdx ((T c).idxOf x)) else T
def dropE (l : List (Int × Int)) (x : Int × Int) : Int := if x ∈ l then 0 else 2

end Go.Proofs.YtgdokpfepfmbmaaDoor

namespace Go.Proofs.YtgdokpfepfmbmaaDoor
set_option linter.unusedVariables false
set_option linter.unusedSimpArgs false
open Go.RowKit

def fstep (s : List (Int × Int) × Int) (x : Int × Int) : List (Int × Int) × Int := (if s.2 < x.1 then s.1 ++ [(s.2, x.1)] else s.1, x.2)
def fpre (l : List (Int × Int)) : List (Int × Int) × Int := l.foldl fstep ([], 0)
def freeL (l : List (Int × Int)) : List (Int × Int) := if (fpre l).2 < 1048576 then (fpre l).1 ++ [((fpre l).2, 1048576)] else (fpre l).1

theorem fpre_snoc (l : List (Int × Int)) (k : Nat) (x : Int × Int) (h : l[k]? = some x) : fpre (l.take (k + 1)) = fstep (fpre (l.take k)) x := by
  rw [List.take_add_one, h]
  simp [fpre]
theorem fpre_len (l : List (Int × Int)) : (fpre l).1.length ≤ l.length := by
  have : ∀ (l : List (Int × Int)) (s : List (Int × Int) × Int), (l.foldl fstep s).1.length ≤ s.1.length + l.length := by
    intro l
    induction l with
    | nil => intro s; simp
    | cons x l ih =>
      intro s
      have := ih (fstep s x)
      have h2 : (fstep s x).1.length ≤ s.1.length + 1 := by simp only [fstep]; split <;> simp
      simp only [List.foldl_cons, List.length_cons]
      omega
  have := this l ([], 0)
  simpa [fpre] using this

theorem own_append_ne {n : Nat} {v v' : Value} {b : Nat} (h : ∀ g, v'.ownBlock = some g → v.ownBlock = some g ∨ n ≤ g) (hv : v.ownBlock ≠ some b) (hb : b < n) : v'.ownBlock ≠ some b := by
  intro e
  rcases h b e with h | h
  · exact hv h
  · omega

set_option maxRecDepth 100000 in
theorem free_any {w : World} {bt : Nat} {T : Int → List (Int × Int)} {F : Nat → Prop} (h : RepT w bt T F) (hT : WFT T) (c : Int) :
    Calls Tryd.prog 67 #[.pointer (some ⟨bt, 0, none⟩), .int .i64 c] w (RetNew WK 43 (freeL (T c)) w) := by
  have HT := Lib.hid hT
  have HR := Lib.hid h
  have hk2 : Kp No w (w.alloc (.cells #[.int .i64 0, .int .i64 1048576] 43)) := (Kp.refl _ _).alloc _
  have h2 := h.kpNo hk2
  obtain ⟨bm, v, q1, q2, q3, q4, q5⟩ := h2.at c
  have q2 := q2 0
  change Sem.run _ _ (w.alloc _) = .ok v (w.alloc _) at q2
  obtain ⟨A, cap, rfl⟩ := q3.rd.shape
  have H := Lib.hid q3.rd
  have hln := (hT c).len
  have HGL := Lib.hid (fun g hg => h.lt.2 g (q4 g hg))
  clear h hT h2 hk2 q3 q4 q5
  go_enter Tryd.func67, Tryd.ntmps67
  go_wp2
  go_loopw [5, 8, 19] (fun o _ i wr => ∃ k : Nat, i = .int .i64 k ∧ k ≤ (T c).length ∧ Own WK 43 wr o (fpre ((T c).take k)).1 ∧ o.ownBlock ≠ some w.heap.size ∧ (∀ g, o.ownBlock = some g → w.heap.size ≤ g) ∧ wr.heap[w.heap.size]? = some (.cells #[.int .i64 (fpre ((T c).take k)).2, .int .i64 1048576] 43 (0, 0)) ∧ Kp No w wr ∧ Rd WK wr (.slice A (T c).length cap) (T c)) (fun _ _ i _ => (T c).length - (intOf i).toNat)
  case atStart => exact ⟨0, rfl, by omega, Own.nil _ _ _, by simp [Value.ownBlock], by simp [Value.ownBlock], by simpa [fpre] using blk_new w _, (Kp.refl _ _).alloc _, H.out⟩
  case round =>
    obtain ⟨k, rfl, hk, ho, hne, hge, hb, hK, hrd⟩ := hrel
    have hfl := fpre_len ((T c).take k)
    have hfl2 : ((T c).take k).length ≤ k := by simp; omega
    have hwl : w.heap.size < wr.heap.size := lt_of_block hb
    by_cases hlt : k < (T c).length
    · obtain ⟨x, hx⟩ : ∃ x, (T c)[k]? = some x := ⟨_, List.getElem?_eq_getElem hlt⟩
      have hsn := fpre_snoc (T c) k x hx
      have HRD := Lib.hid hrd
      rcases hrd with ⟨hv, he⟩ | ⟨g, o, cap', hv, _⟩
      · rw [he] at hlt; simp at hlt
      simp only [Value.slice.injEq] at hv
      obtain ⟨rfl, _, rfl⟩ := hv
      obtain ⟨hc1, hc2⟩ := HRD.out.winAt hx
      generalize hs : fpre ((T c).take k) = s at *
      obtain ⟨sl, sf⟩ := s
      simp only at hfl
      have hb1 := (blk_cell hb 0).trans rfl
      have hb2 := (blk_cell hb 1).trans rfl
      have hbf := blk_free hb 0
      have HO := Lib.hid ho; have HN := Lib.hid hne; have HG := Lib.hid hge; have HB := Lib.hid hb; have HK := Lib.hid hK; have HSN := Lib.hid hsn
      have hltI : (k : Int) < ((T c).length : Int) := by omega
      simp only [List.getElem?_toArray, List.getElem?_cons_zero, List.getElem?_cons_succ] at hb1 hb2
      clear ho hne hge hb hK hsn hs hx hlt
      by_cases hgt : sf < x.1
      · go_wp2_with (at_builtin; refine wpl_append elW rfl (.tmp 28) (.tmp 34) rfl rfl rfl (l := sl) (m := [(sf, x.1)]) ?c1 ?c2 ?c3 ?c4 ?c5)
        case c1 => exact HO.out.alloc _ |>.alloc _
        case c2 => exact Rd.litAt WK 43 _ _ [(sf, x.1)] rfl (by unfold maxLen; simp) _ _ (by simp) rfl
        case c3 => show sl.length + 1 ≤ maxLen; unfold maxLen; omega
        case c4 => show (sl.length + 1) * 16 ≤ _; omega
        case c5 =>
          intro v' w' k1 k2 k3
          have hB2 : w'.heap[w.heap.size]? = some (.cells #[.int .i64 sf, .int .i64 1048576] 43 (0, 0)) := k2.blk (blk_alloc (blk_alloc HB.out _) _) HN.out
          have K1 := Lib.hid k1; have K2 := Lib.hid k2; have K3 := Lib.hid k3; have HB2 := Lib.hid hB2
          have hbf2 := blk_free hB2 0
          have hbc2 := (blk_cell hB2 0).trans rfl
          have hx2 : w'.cell? ⟨wr.heap.size, 1, none⟩ = some (.int .i64 x.2) := by
            refine k2.cellS ((blk_cell (blk_alloc (blk_new wr (.cells #[.int .i64 x.1, .int .i64 x.2] 43)) _) 1).trans rfl) ?_
            intro e; exact absurd (HO.out.lt e) (Nat.lt_irrefl _)
          clear k1 k2 k3 hB2
          simp only [List.getElem?_toArray, List.getElem?_cons_zero, List.getElem?_cons_succ] at hbc2
          go_wp2
          go_roundw
          case rel =>
            have hne' : v'.ownBlock ≠ some w.heap.size := own_append_ne K3.out HN.out (by omega)
            refine ⟨k + 1, by go_num, by omega, ?_, hne', ?_, ?_, ?_, ?_⟩
            · rw [HSN.out]; simp only [fstep, if_pos hgt]
              exact K1.out.kp ((Kp.refl (fun j => j = w.heap.size) w').setCell (fun _ => rfl) _) (fun j hj e => hne' (e ▸ hj))
            · intro j hj
              rcases K3.out j hj with e | e
              · exact HG.out j e
              · omega
            · rw [HSN.out]; simpa [fstep] using blk_set HB2.out 0 (.int .i64 x.2)
            · refine (((HK.out.alloc _).alloc _).trans' K2.out ?_).trans' ((Kp.refl (fun j => j = w.heap.size) w').setCell (fun _ => rfl) _) ?_
              · intro j hj e; have := HG.out j e; omega
              · intro j hj e; omega
            · refine (((HRD.out.alloc _).alloc _).kp K2.out ?_).kp ((Kp.refl (fun j => j = w.heap.size) w').setCell (fun _ => rfl) _) ?_
              · intro j hj e; have := HGL.out j hj; have := HG.out j e; omega
              · intro j hj e; have := HGL.out j hj; omega
          case measure => simp [intOf]; omega
      · go_wp2
        go_roundw
        case rel =>
          refine ⟨k + 1, by go_num, by omega, ?_, HN.out, HG.out, ?_, ?_, ?_⟩
          · rw [HSN.out]; simp only [fstep, if_neg hgt]
            exact (HO.out.kp ((Kp.refl (fun j => j = w.heap.size) wr).setCell (fun _ => rfl) _) (fun j hj e => HN.out (e ▸ hj))).alloc _
          · rw [HSN.out]; exact blk_alloc (by simpa [fstep] using blk_set HB.out 0 (.int .i64 x.2)) _
          · exact ((HK.out.trans' ((Kp.refl (fun j => j = w.heap.size) wr).setCell (fun _ => rfl) _) (fun j hj e => by omega)).alloc _)
          · exact (HRD.out.kp ((Kp.refl (fun j => j = w.heap.size) wr).setCell (fun _ => rfl) _) (fun j hj e => by have := HGL.out j hj; omega)).alloc _
        case measure => simp [intOf]; omega
    · obtain rfl : k = (T c).length := by omega
      rw [List.take_length] at *
      have hfr : freeL (T c) = if (fpre (T c)).2 < 1048576 then (fpre (T c)).1 ++ [((fpre (T c)).2, 1048576)] else (fpre (T c)).1 := rfl
      generalize hs : fpre (T c) = s at *
      obtain ⟨sl, sf⟩ := s
      simp only at hfl
      have hb1 := (blk_cell hb 0).trans rfl
      have hb2 := (blk_cell hb 1).trans rfl
      have HO := Lib.hid ho; have HN := Lib.hid hne; have HG := Lib.hid hge; have HB := Lib.hid hb; have HK := Lib.hid hK; have HRD := Lib.hid hrd
      simp only [List.getElem?_toArray, List.getElem?_cons_zero, List.getElem?_cons_succ] at hb1 hb2
      have hge0 : ¬ ((T c).length : Int) < ((T c).length : Int) := by omega
      have HFR := Lib.hid hfr
      clear ho hne hge hb hK hrd hs hfr hlt
      by_cases hgt : sf < 1048576
      · have hfr2 := Lib.hid (HFR.out.trans (if_pos hgt))
        go_wp2_with (at_builtin; refine wpl_append elW rfl (.tmp 45) (.tmp 47) rfl rfl rfl (l := sl) (m := [(sf, 1048576)]) ?c1 ?c2 ?c3 ?c4 ?c5)
        case c1 => exact HO.out.alloc _
        case c2 => exact Rd.litAt WK 43 _ _ [(sf, 1048576)] rfl (by unfold maxLen; simp) _ _ rfl rfl
        case c3 => show sl.length + 1 ≤ maxLen; unfold maxLen; omega
        case c4 => show (sl.length + 1) * 16 ≤ _; omega
        case c5 =>
          intro v' w' k1 k2 k3
          have K1 := Lib.hid k1; have K2 := Lib.hid k2; have K3 := Lib.hid k3
          clear k1 k2 k3
          go_wp2
          go_ret
          refine ⟨_, rfl, by rw [hfr2.out]; exact K1.out, ((HK.out.alloc _).trans' K2.out fun j hj e => ?_), fun j hj => ?_⟩
          · have := HG.out j e; omega
          · rcases K3.out j hj with e | e
            · exact HG.out j e
            · omega
      · have hfr2 := Lib.hid (HFR.out.trans (if_neg hgt))
        go_wp2
        go_ret
        exact ⟨_, rfl, by rw [hfr2.out]; exact HO.out, HK.out, HG.out⟩
end Go.Proofs.YtgdokpfepfmbmaaDoor

namespace Go.Proofs.YtgdokpfepfmbmaaDoor
set_option linter.unusedVariables false
set_option linter.unusedSimpArgs false
open Go.RowKit

theorem WFL.drop {l : List (Int × Int)} (h : WFL l) (n : Nat) : WFL (l.drop n) :=
  ⟨fun x hx => h.rt x (List.mem_of_mem_drop hx), h.ord.sublist (List.drop_sublist _ _), by have := h.len; simp; omega⟩
end Go.Proofs.YtgdokpfepfmbmaaDoor

namespace Go.Proofs.YtgdokpfepfmbmaaDoor
set_option linter.unusedVariables false
set_option linter.unusedSimpArgs false

theorem place_take (l : List (Int × Int)) (m : Int) : l.take (place l m) = l.takeWhile (fun x => decide (x.2 ≤ m)) := by
  unfold place
  conv => lhs; arg 2; rw [← List.takeWhile_append_dropWhile (p := fun x : Int × Int => decide (x.2 ≤ m)) (l := l)]
  exact List.take_left
theorem place_drop (l : List (Int × Int)) (m : Int) : l.drop (place l m) = l.dropWhile (fun x => decide (x.2 ≤ m)) := by
  unfold place
  conv => lhs; arg 2; rw [← List.takeWhile_append_dropWhile (p := fun x : Int × Int => decide (x.2 ≤ m)) (l := l)]
  exact List.drop_left
theorem place_before {l : List (Int × Int)} {m : Int} {x : Int × Int} (h : x ∈ l.take (place l m)) : x.2 ≤ m := by
  rw [place_take] at h
  induction l with
  | nil => simp at h
  | cons y l ih =>
    rw [List.takeWhile_cons] at h
    split at h
    · rename_i hy
      simp only [List.mem_cons] at h
      rcases h with rfl | h
      · simpa using hy
      · exact ih h
    · simp at h
theorem dropWhile_head {l : List (Int × Int)} {p : Int × Int → Bool} {x : Int × Int} {r : List (Int × Int)} (h : l.dropWhile p = x :: r) : p x = false := by
  induction l with
  | nil => simp at h
  | cons y l ih =>
    rw [List.dropWhile_cons] at h
    split at h
    · exact ih h
    · rename_i hy
      simp only [List.cons.injEq] at h
      rw [← h.1]; simpa using hy
/-- In order, all that stand from 'place' on end behind the moment. -/
theorem place_behind {l : List (Int × Int)} (hw : WFL l) {m : Int} {x : Int × Int} (h : x ∈ l.drop (place l m)) : m < x.2 := by
  have hp : (l.drop (place l m)).Pairwise (fun a b => a.2 ≤ b.1) := hw.ord.sublist (List.drop_sublist _ _)
  cases hd : l.drop (place l m) with
  | nil => rw [hd] at h; simp at h
  | cons y r =>
    have hy : m < y.2 := by
      rw [place_drop] at hd
      have := dropWhile_head hd
      simp at this; omega
    rw [hd] at h hp
    simp only [List.mem_cons] at h
    rcases h with rfl | h
    · exact hy
    · have h1 := (List.pairwise_cons.1 hp).1 x h
      have h2 := hw.rt x (List.mem_of_mem_drop (hd ▸ List.mem_cons_of_mem y h : x ∈ l.drop (place l m)))
      omega

theorem WFL.ins {l : List (Int × Int)} (hw : WFL l) {a b : Int} (h : takeE l a b = 0) : WFL (insL l (place l a) (a, b)) := by
  unfold takeE at h
  split at h
  · simp at h
  rename_i hr
  have hr := Decidable.not_not.1 hr
  have key : ∀ c : Bool, (if c = true then (3 : Int) else if 4096 ≤ l.length then 4 else 0) = 0 → c = false ∧ ¬ 4096 ≤ l.length := by
    intro c
    cases c
    · by_cases hl : 4096 ≤ l.length <;> simp [hl]
    · simp
  obtain ⟨hx, hl⟩ := key _ h
  have hb : ∀ x ∈ l.drop (place l a), b ≤ x.1 := by
    intro x hxm
    have hp : (l.drop (place l a)).Pairwise (fun a b => a.2 ≤ b.1) := hw.ord.sublist (List.drop_sublist _ _)
    cases hd : l.drop (place l a) with
    | nil => rw [hd] at hxm; simp at hxm
    | cons y r =>
      have hy0 : l[place l a]? = some y := by
        have := congrArg List.head? hd
        simpa [List.head?_drop] using this
      rw [hy0] at hx
      have hy1 : b ≤ y.1 := by simpa using hx
      have hy2 := hw.rt y (List.mem_of_getElem? hy0)
      rw [hd] at hxm hp
      simp only [List.mem_cons] at hxm
      rcases hxm with rfl | hxm
      · exact hy1
      · have := (List.pairwise_cons.1 hp).1 x hxm; omega
  refine ⟨?_, ?_, ?_⟩
  · intro x hxm
    simp only [insL, List.mem_append, List.mem_singleton] at hxm
    rcases hxm with (hxm | rfl) | hxm
    · exact hw.rt x (List.mem_of_mem_take hxm)
    · exact hr
    · exact hw.rt x (List.mem_of_mem_drop hxm)
  · unfold insL
    rw [List.append_assoc, List.pairwise_append]
    refine ⟨hw.ord.sublist (List.take_sublist _ _), ?_, ?_⟩
    · rw [List.singleton_append, List.pairwise_cons]
      exact ⟨hb, hw.ord.sublist (List.drop_sublist _ _)⟩
    · intro x hxm y hym
      have h1 := place_before hxm
      simp only [List.singleton_append, List.mem_cons] at hym
      rcases hym with rfl | hym
      · exact h1
      · have := hb y hym; omega
  · have := place_le l a
    simp [insL, Nat.min_eq_left this]; omega

theorem WFL.nil : WFL [] := ⟨by simp, by simp, by simp⟩
theorem WFT.nil : WFT (fun _ => []) := fun _ => WFL.nil
theorem WFT.set {T : Int → List (Int × Int)} (h : WFT T) {c : Int} {l : List (Int × Int)} (hl : WFL l) : WFT (setT T c l) := by
  intro c'
  unfold setT
  split
  · exact hl
  · exact h c'
theorem WFT.take {T : Int → List (Int × Int)} (h : WFT T) (c a b : Int) : WFT (takeT T c a b) := by
  unfold takeT
  split
  · rename_i he; exact h.set ((h c).ins he)
  · exact h
theorem WFT.dropT {T : Int → List (Int × Int)} (h : WFT T) (c : Int) (x : Int × Int) : WFT (dropT T c x) := by
  unfold Go.Proofs.YtgdokpfepfmbmaaDoor.dropT
  split
  · refine h.set ?_
    have hw := h c
    exact ⟨fun y hy => hw.rt y (List.mem_of_mem_eraseIdx hy), hw.ord.sublist (List.eraseIdx_sublist _ _), Nat.le_trans (List.Sublist.length_le (List.eraseIdx_sublist _ _)) hw.len⟩
  · exact h
theorem WFT.forget' {T : Int → List (Int × Int)} (h : WFT T) (m : Int) : WFT (fun c => (T c).drop (place (T c) m)) := fun c => (h c).drop _
end Go.Proofs.YtgdokpfepfmbmaaDoor

namespace Go.Proofs.YtgdokpfepfmbmaaDoor
set_option linter.unusedVariables false
set_option linter.unusedSimpArgs false
open Go.RowKit

theorem neqW (x y : Int × Int) (b : Bool) (hb : b = !decide (x = y)) (w : World) : (binOp .neq 43 (.agg #[.int .i64 x.1, .int .i64 x.2]) (.agg #[.int .i64 y.1, .int .i64 y.2])).run Tryd.prog w = .ok (.bool b) w := by
  subst hb
  have h : decide (x = y) = (decide (x.1 = y.1) && decide (x.2 = y.2)) := by
    rw [← Bool.decide_and]; exact decide_eq_decide.2 Prod.ext_iff
  rw [h]
  by_cases h1 : x.1 = y.1 <;> by_cases h2 : x.2 = y.2 <;> simp [binOp, Op.equal, Op.maxDepth, go_sem, h1, h2]

theorem same_any {a b : Value} {l m : List (Int × Int)} {w : World} (ha : Rd WK w a l) (hb : Rd WK w b m) (hl : l.length ≤ 1000000) (hm : m.length ≤ 1000000) (r : Bool) (hr : r = decide (l = m)) :
    Calls Tryd.prog 23 #[a, b] w fun e w' => e = .returned (.bool r) ∧ Kp No w w' := by
  obtain ⟨A, ca, rfl⟩ := ha.shape
  obtain ⟨B, cb, rfl⟩ := hb.shape
  have HR := Lib.hid hr
  by_cases hlen : ¬ l.length = m.length
  · have hd : r = false := by rw [hr]; simp; intro e; exact hlen (by rw [e])
    subst hd
    have hne : ((l.length : Int) != (m.length : Int)) = true := by rw [bne_iff_ne]; omega
    clear hr hlen ha hb
    go_enter Tryd.func23, Tryd.ntmps23
    go_wp2
    go_ret
    exact ⟨rfl, Kp.refl _ _⟩
  · have hlen := Decidable.not_not.1 hlen
    have hne : ((l.length : Int) != (m.length : Int)) = false := by simp [hlen]
    have HL := Lib.hid hlen
    have HA := Lib.hid ha; have HB := Lib.hid hb
    clear hr hlen ha hb
    go_enter Tryd.func23, Tryd.ntmps23
    go_wp2
    go_loopw [5] (fun i wr => ∃ k : Nat, i = .int .i64 k ∧ k ≤ l.length ∧ (∀ j : Nat, j < k → l[j]? = m[j]?) ∧ Kp No w wr) (fun i _ => l.length - (intOf i).toNat)
    case atStart => exact ⟨0, rfl, by omega, by intros; omega, Kp.refl _ _⟩
    case round =>
      obtain ⟨k, rfl, hk, heq, hK⟩ := hrel
      by_cases hlt : k < l.length
      · obtain ⟨x, hx⟩ : ∃ x, l[k]? = some x := ⟨_, List.getElem?_eq_getElem hlt⟩
        have hkm : k < m.length := by have := HL.out; omega
        obtain ⟨y, hy⟩ : ∃ y, m[k]? = some y := ⟨_, List.getElem?_eq_getElem hkm⟩
        have RA := HA.out.kpNo hK
        have RB := HB.out.kpNo hK
        rcases RA with ⟨hv, he⟩ | ⟨g, o, c1, hv, _⟩
        · rw [he] at hlt; simp at hlt
        rcases RB with ⟨hv2, he⟩ | ⟨g2, o2, c2, hv2, _⟩
        · rw [he] at hkm; simp at hkm
        simp only [Value.slice.injEq] at hv hv2
        obtain ⟨rfl, _, rfl⟩ := hv
        obtain ⟨rfl, _, rfl⟩ := hv2
        obtain ⟨hx1, hx2⟩ := (HA.out.kpNo hK).winAt hx
        obtain ⟨hy1, hy2⟩ := (HB.out.kpNo hK).winAt hy
        have hltI : (k : Int) < (l.length : Int) := by omega
        have hltJ : (k : Int) < (m.length : Int) := by omega
        have HE := Lib.hid heq; have HK := Lib.hid hK; have HX := Lib.hid hx; have HY := Lib.hid hy
        clear heq hK hx hy
        by_cases hxy : x = y
        · subst hxy
          have hq := neqW x x false (by simp)
          go_wp2
          go_quiet (fail)
          go_wp2
          go_roundw
          case rel =>
            refine ⟨k + 1, by go_num, hlt, ?_, HK.out.drewN _⟩
            intro j hj
            by_cases hjk : j = k
            · subst hjk; rw [HX.out, HY.out]
            · exact HE.out j (by omega)
          case measure => simp [intOf]; omega
        · have hq := neqW x y true (by simp [hxy])
          have hd : r = false := by
            rw [HR.out]; simp
            rintro rfl
            have := HX.out.symm.trans HY.out
            simp at this
            exact hxy this
          subst hd
          clear hxy
          go_wp2
          go_quiet (fail)
          go_wp2
          go_ret
          exact ⟨rfl, HK.out.drewN _⟩
      · obtain rfl : k = l.length := by omega
        have hd : r = true := by
          rw [HR.out]; simp
          apply List.ext_getElem?
          intro j
          by_cases hj : j < l.length
          · exact heq j hj
          · rw [List.getElem?_eq_none (by omega), List.getElem?_eq_none (by have := HL.out; omega)]
        subst hd
        have HK := Lib.hid hK
        clear heq hK
        go_wp2
        go_ret
        exact ⟨rfl, HK.out⟩
end Go.Proofs.YtgdokpfepfmbmaaDoor

namespace Go.Proofs.YtgdokpfepfmbmaaDoor
set_option linter.unusedVariables false
set_option linter.unusedSimpArgs false
open Go.RowKit

/-- The table bt was made since w0, and reads as T. -/
def AtT (w0 : World) (bt : Nat) (T : Int → List (Int × Int)) (w : World) : Prop := ∃ F, RepT w bt T F ∧ Kp No w0 w ∧ (∀ k, F k → w0.heap.size ≤ k) ∧ w0.heap.size ≤ bt

theorem AtT.kpNo {w0 w w' : World} {bt : Nat} {T : Int → List (Int × Int)} (h : AtT w0 bt T w) (hk : Kp No w w') : AtT w0 bt T w' :=
  let ⟨F, h1, h2, h3, h4⟩ := h
  ⟨F, h1.kpNo hk, h2.no hk, h3, h4⟩
theorem AtT.kp {w0 w : World} {bt : Nat} {T : Int → List (Int × Int)} (h : AtT w0 bt T w) : Kp No w0 w := let ⟨_, _, h2, _⟩ := h; h2
theorem AtT.to {w0 w w' : World} {bt : Nat} {T T' : Int → List (Int × Int)} {F : Nat → Prop} (h1 : RepT w bt T F) (h2 : Kp No w0 w) (h3 : ∀ k, F k → w0.heap.size ≤ k) (h4 : w0.heap.size ≤ bt) (ht : TabTo bt T' F w w') : AtT w0 bt T' w' := by
  obtain ⟨F', a, b, c⟩ := ht
  have := h2.size
  exact ⟨F', a, h2.trans' b (fun k hk h => by have := h3 k h; omega), fun k hk => (c k hk).elim (h3 k) (fun h => by omega), h4⟩

theorem new_at (w : World) : Calls Tryd.prog 29 #[] w fun e w' => ∃ bt, e = .returned (.pointer (some ⟨bt, 0, none⟩)) ∧ AtT w bt (fun _ => []) w' :=
  (new_any w).mono fun _ _ ⟨bt, F, h1, h2, h3, h4, h5⟩ => ⟨bt, h1, F, h2, h3, h5, h4⟩
theorem take_at {w0 w : World} {bt : Nat} {T : Int → List (Int × Int)} (h : AtT w0 bt T w) (hT : WFT T) (c a b r : Int) (hr : r = takeE (T c) a b) :
    Calls Tryd.prog 19 #[.pointer (some ⟨bt, 0, none⟩), .int .i64 c, .agg #[.int .i64 a, .int .i64 b]] w fun e w' => e = .returned (.int .i64 r) ∧ AtT w0 bt (takeT T c a b) w' := by
  subst hr
  obtain ⟨F, h1, h2, h3, h4⟩ := h
  exact (take_any h1 hT c a b).mono fun _ _ ⟨he, ht⟩ => ⟨he, AtT.to h1 h2 h3 h4 ht⟩
theorem wis_at {w0 w : World} {bt : Nat} {T : Int → List (Int × Int)} (h : AtT w0 bt T w) (hT : WFT T) (c m : Int) (r : Bool) (hr : r = isF (T c) m) :
    Calls Tryd.prog 28 #[.pointer (some ⟨bt, 0, none⟩), .int .i64 c, .int .i64 m] w fun e w' => e = .returned (.bool r) ∧ AtT w0 bt T w' ∧ Kp No w w' := by
  subst hr
  have h' := h
  obtain ⟨F, h1, h2, h3, h4⟩ := h
  exact (wis_any h1 hT c m).mono fun _ _ ⟨he, ht⟩ => ⟨he, h'.kpNo ht, ht⟩

/-- What Taken and Free hand back. -/
def RetAt (w0 : World) (bt : Nat) (T : Int → List (Int × Int)) (l : List (Int × Int)) (w : World) (en : Ending) (w' : World) : Prop :=
  ∃ v', en = .returned v' ∧ Own WK 43 w' v' l ∧ Kp No w w' ∧ (∀ g, v'.ownBlock = some g → w.heap.size ≤ g) ∧ AtT w0 bt T w'
theorem free_at {w0 w : World} {bt : Nat} {T : Int → List (Int × Int)} (h : AtT w0 bt T w) (hT : WFT T) (c : Int) :
    Calls Tryd.prog 67 #[.pointer (some ⟨bt, 0, none⟩), .int .i64 c] w (RetAt w0 bt T (freeL (T c)) w) := by
  have h' := h
  obtain ⟨F, h1, h2, h3, h4⟩ := h
  exact (free_any h1 hT c).mono fun _ _ ⟨v, a, b, c, d⟩ => ⟨v, a, b, c, d, h'.kpNo c⟩
theorem taken_at {w0 w : World} {bt : Nat} {T : Int → List (Int × Int)} (h : AtT w0 bt T w) (hT : WFT T) (c : Int) :
    Calls Tryd.prog 24 #[.pointer (some ⟨bt, 0, none⟩), .int .i64 c] w (RetAt w0 bt T (T c) w) := by
  have h' := h
  obtain ⟨F, h1, h2, h3, h4⟩ := h
  exact (taken_any h1 hT c).mono fun _ _ ⟨v, a, b, c, d⟩ => ⟨v, a, b, c, d, h'.kpNo c⟩

end Go.Proofs.YtgdokpfepfmbmaaDoor

namespace Go.Proofs.YtgdokpfepfmbmaaDoor
set_option linter.unusedVariables false
set_option linter.unusedSimpArgs false
open Go.RowKit

theorem box2 {w1 w' : World} {g : Nat} {x y : Value} {t : TypeId} (h : w1.heap[g]? = some (.cells #[x, y] t (0, 0))) (hk : Kp No w1 w') : w'.cell? ⟨g, 0, none⟩ = some x ∧ w'.cell? ⟨g, 1, none⟩ = some y :=
  ⟨(blk_cell (hk.blk h (no_no _)) 0).trans rfl, (blk_cell (hk.blk h (no_no _)) 1).trans rfl⟩
def sumL (l : List (Int × Int)) : Int := (l.map fun x => x.2 - x.1).sum

theorem sumL_append (a b : List (Int × Int)) : sumL (a ++ b) = sumL a + sumL b := by simp [sumL]
theorem sumL_one (x : Int × Int) : sumL [x] = x.2 - x.1 := by simp [sumL]
theorem sum_snoc (l : List (Int × Int)) (k : Nat) (x : Int × Int) (h : l[k]? = some x) : sumL (l.take (k + 1)) = sumL (l.take k) + (x.2 - x.1) := by
  rw [List.take_add_one, h]
  simp [sumL]

theorem fpre_sum {l : List (Int × Int)} (hw : WFL l) : ∀ k, k ≤ l.length → sumL (fpre (l.take k)).1 + sumL (l.take k) = (fpre (l.take k)).2 ∧ 0 ≤ (fpre (l.take k)).2 ∧ (fpre (l.take k)).2 ≤ 1048576 ∧ (∀ x, l[k]? = some x → (fpre (l.take k)).2 ≤ x.1) := by
  intro k
  induction k with
  | zero =>
    intro _
    refine ⟨by simp [fpre, sumL], by simp [fpre], by simp [fpre], fun x hx => ?_⟩
    have := (hw.rt x (List.mem_of_getElem? hx)).1
    simpa [fpre] using this
  | succ k ih =>
    intro hk
    obtain ⟨x, hx⟩ : ∃ x, l[k]? = some x := ⟨_, List.getElem?_eq_getElem (by omega)⟩
    obtain ⟨i1, i2, i3, i4⟩ := ih (by omega)
    have hr := hw.rt x (List.mem_of_getElem? hx)
    rw [fpre_snoc l k x hx, sum_snoc l k x hx]
    have h4 := i4 x hx
    generalize fpre (l.take k) = s at *
    refine ⟨?_, by simp [fstep]; omega, by simp [fstep]; omega, fun y hy => ?_⟩
    · simp only [fstep]
      split
      · rw [sumL_append, sumL_one]
        simp only
        omega
      · omega
    · simp only [fstep]
      have hkl := (List.getElem?_eq_some_iff.1 hy).1
      have := List.pairwise_iff_getElem.1 hw.ord k (k + 1) (by omega) hkl (by omega)
      rw [(List.getElem?_eq_some_iff.1 hx).2, (List.getElem?_eq_some_iff.1 hy).2] at this
      exact this

/-- The free windows and those that are taken are as long together as all time. -/
theorem free_sum {l : List (Int × Int)} (hw : WFL l) : sumL (freeL l) + sumL l = 1048576 := by
  obtain ⟨h1, h2, h3, _⟩ := fpre_sum hw l.length (Nat.le_refl _)
  rw [List.take_length] at *
  unfold freeL
  generalize fpre l = s at *
  split
  · rw [sumL_append, sumL_one]
    simp only
    omega
  · omega
theorem freeL_wf {l : List (Int × Int)} (hw : WFL l) : ∀ x ∈ freeL l, 0 ≤ x.1 ∧ x.1 < x.2 ∧ x.2 ≤ 1048576 := by
  have key : ∀ k, k ≤ l.length → ∀ x ∈ (fpre (l.take k)).1, 0 ≤ x.1 ∧ x.1 < x.2 ∧ x.2 ≤ 1048576 := by
    intro k
    induction k with
    | zero => intro _ x hx; simp [fpre] at hx
    | succ k ih =>
      intro hk x hx
      obtain ⟨y, hy⟩ : ∃ y, l[k]? = some y := ⟨_, List.getElem?_eq_getElem (by omega)⟩
      obtain ⟨i1, i2, i3, i4⟩ := fpre_sum hw k (by omega)
      have hr := hw.rt y (List.mem_of_getElem? hy)
      rw [fpre_snoc l k y hy] at hx
      simp only [fstep] at hx
      split at hx
      · simp only [List.mem_append, List.mem_singleton] at hx
        rcases hx with hx | rfl
        · exact ih (by omega) x hx
        · simp only; omega
      · exact ih (by omega) x hx
  intro x hx
  have h := key l.length (Nat.le_refl _)
  obtain ⟨i1, i2, i3, i4⟩ := fpre_sum hw l.length (Nat.le_refl _)
  rw [List.take_length] at *
  unfold freeL at hx
  split at hx
  · simp only [List.mem_append, List.mem_singleton] at hx
    rcases hx with hx | rfl
    · exact h x hx
    · simp only; omega
  · exact h x hx
theorem freeL_len (l : List (Int × Int)) : (freeL l).length ≤ l.length + 1 := by
  have := fpre_len l
  unfold freeL
  split
  · simp; omega
  · omega
theorem sum_bound {l : List (Int × Int)} (h : ∀ x ∈ l, 0 ≤ x.1 ∧ x.1 < x.2 ∧ x.2 ≤ 1048576) : ∀ k, 0 ≤ sumL (l.take k) ∧ sumL (l.take k) ≤ 1048576 * (l.length : Int) := by
  intro k
  have : ∀ (l : List (Int × Int)), (∀ x ∈ l, 0 ≤ x.1 ∧ x.1 < x.2 ∧ x.2 ≤ 1048576) → 0 ≤ sumL l ∧ sumL l ≤ 1048576 * (l.length : Int) := by
    intro l
    induction l with
    | nil => intro _; simp [sumL]
    | cons x l ih =>
      intro h
      have h1 := h x (List.mem_cons_self)
      have h2 := ih fun y hy => h y (List.mem_cons_of_mem _ hy)
      simp only [sumL, List.map_cons, List.sum_cons, List.length_cons] at h2 ⊢
      omega
  have h2 := this (l.take k) fun x hx => h x (List.mem_of_mem_take hx)
  have : (l.take k).length ≤ l.length := by simp; omega
  omega

end Go.Proofs.YtgdokpfepfmbmaaDoor

namespace Go.Proofs.YtgdokpfepfmbmaaDoor
set_option linter.unusedVariables false
set_option linter.unusedSimpArgs false
open Go.RowKit

def inB (m : Int) (l : List (Int × Int)) : Bool := l.any fun x => decide (x.1 ≤ m) && decide (m < x.2)
theorem inB_append (m : Int) (a b : List (Int × Int)) : inB m (a ++ b) = (inB m a || inB m b) := by simp [inB]
theorem inB_one (m : Int) (x : Int × Int) : inB m [x] = (decide (x.1 ≤ m) && decide (m < x.2)) := by simp [inB]
theorem inB_snoc (m : Int) (l : List (Int × Int)) (k : Nat) (x : Int × Int) (h : l[k]? = some x) : inB m (l.take (k + 1)) = (inB m (l.take k) || (decide (x.1 ≤ m) && decide (m < x.2))) := by
  rw [List.take_add_one, h, Option.toList_some, inB_append, inB_one]

theorem fpre_in {l : List (Int × Int)} (hw : WFL l) (m : Int) (hm : 0 ≤ m) : ∀ k, k ≤ l.length → (m < (fpre (l.take k)).2 → inB m (fpre (l.take k)).1 = !inB m (l.take k)) ∧ ((fpre (l.take k)).2 ≤ m → inB m (fpre (l.take k)).1 = false ∧ inB m (l.take k) = false) := by
  intro k
  induction k with
  | zero => intro _; simp [fpre, inB]; omega
  | succ k ih =>
    intro hk
    obtain ⟨x, hx⟩ : ∃ x, l[k]? = some x := ⟨_, List.getElem?_eq_getElem (by omega)⟩
    obtain ⟨i1, i2⟩ := ih (by omega)
    obtain ⟨_, j2, j3, j4⟩ := fpre_sum hw k (by omega)
    have hr := hw.rt x (List.mem_of_getElem? hx)
    have h4 := j4 x hx
    rw [fpre_snoc l k x hx, inB_snoc m l k x hx]
    generalize fpre (l.take k) = s at *
    generalize inB m (l.take k) = q at *
    obtain ⟨s1, s2⟩ := s
    simp only [fstep] at *
    refine ⟨fun h => ?_, fun h => ?_⟩
    · by_cases c : m < s2
      · have c1 : ¬ x.1 ≤ m := by omega
        split
        · rw [inB_append, inB_one, i1 c]; simp [c1]; omega
        · rw [i1 c]; simp [c1]
      · obtain ⟨e1, e2⟩ := i2 (by omega)
        subst e2
        split
        · rw [inB_append, inB_one, e1]
          by_cases c1 : x.1 ≤ m
          · simp [c1, h]; try omega
          · simp [c1]; try omega
        · have c1 : x.1 ≤ m := by omega
          rw [e1]; simp [c1, h]
    · obtain ⟨e1, e2⟩ := i2 (by omega)
      subst e2
      split
      · rw [inB_append, inB_one, e1]; simp; omega
      · rw [e1]; simp; omega

/-- A moment is in a free window just if it is in none that is taken. -/
theorem free_in {l : List (Int × Int)} (hw : WFL l) (m : Int) (hm : 0 ≤ m) (hm2 : m < 1048576) : inB m (freeL l) = !inB m l := by
  obtain ⟨h1, h2⟩ := fpre_in hw m hm l.length (Nat.le_refl _)
  rw [List.take_length] at *
  unfold freeL
  generalize fpre l = s at *
  split
  · rw [inB_append, inB_one]
    by_cases c : m < s.2
    · rw [h1 c]; simp; omega
    · obtain ⟨e1, e2⟩ := h2 (by omega)
      rw [e1, e2]; simp; omega
  · exact h1 (by omega)

theorem is_in {l : List (Int × Int)} (hw : WFL l) (m : Int) (hm : 0 ≤ m) (hm2 : m < 1048576) : isF l m = !inB m l := by
  have hb : inB m (l.take (place l m)) = false := by
    simp only [inB, List.any_eq_false]
    intro x hx
    have := place_before hx
    simp; omega
  unfold isF
  simp only [hm, hm2, decide_true, Bool.true_and]
  cases hx : l[place l m]? with
  | none =>
    have h1 := place_le l m
    have h2 := List.getElem?_eq_none_iff.1 hx
    have h3 : place l m = l.length := by omega
    rw [h3, List.take_length] at hb
    simp [hb]
  | some x =>
    have hlt := (List.getElem?_eq_some_iff.1 hx).1
    have hd : l.drop (place l m) = x :: l.drop (place l m + 1) := by
      rw [List.drop_eq_getElem_cons hlt]; congr 1; exact (List.getElem?_eq_some_iff.1 hx).2
    have hxm : m < x.2 := place_behind hw (by rw [hd]; exact List.mem_cons_self)
    have hp : (x :: l.drop (place l m + 1)).Pairwise (fun a b => a.2 ≤ b.1) := hd ▸ hw.ord.sublist (List.drop_sublist _ _)
    have hrest : inB m (l.drop (place l m + 1)) = false := by
      simp only [inB, List.any_eq_false]
      intro y hy
      have := (List.pairwise_cons.1 hp).1 y hy
      simp; omega
    have : inB m l = inB m (l.take (place l m) ++ ([x] ++ l.drop (place l m + 1))) := by
      rw [List.singleton_append, ← hd, List.take_append_drop]
    rw [this, inB_append, inB_append, inB_one, hb, hrest]
    by_cases c : x.1 ≤ m
    · simp [c, hxm]
    · simp [c]; omega

/-- Windows in order. -/
def Ordd (l : List (Int × Int)) : Prop := (∀ x ∈ l, 0 ≤ x.1 ∧ x.1 < x.2 ∧ x.2 ≤ 1048576) ∧ l.Pairwise (fun a b => a.2 ≤ b.1)
theorem WFL.ordd {l : List (Int × Int)} (hw : WFL l) : Ordd l := ⟨hw.rt, hw.ord⟩
theorem fpre_ord {l : List (Int × Int)} (hw : WFL l) : ∀ k, k ≤ l.length → (fpre (l.take k)).1.Pairwise (fun a b => a.2 ≤ b.1) ∧ ∀ x ∈ (fpre (l.take k)).1, x.2 ≤ (fpre (l.take k)).2 := by
  intro k
  induction k with
  | zero => intro _; simp [fpre]
  | succ k ih =>
    intro hk
    obtain ⟨x, hx⟩ : ∃ x, l[k]? = some x := ⟨_, List.getElem?_eq_getElem (by omega)⟩
    obtain ⟨i1, i2⟩ := ih (by omega)
    obtain ⟨_, j2, j3, j4⟩ := fpre_sum hw k (by omega)
    have hr := hw.rt x (List.mem_of_getElem? hx)
    have h4 := j4 x hx
    rw [fpre_snoc l k x hx]
    generalize fpre (l.take k) = s at *
    obtain ⟨s1, s2⟩ := s
    simp only [fstep] at *
    split
    · refine ⟨List.pairwise_append.2 ⟨i1, List.pairwise_singleton _ _, fun a ha b hb => ?_⟩, fun y hy => ?_⟩
      · simp at hb; subst hb; exact i2 a ha
      · simp only [List.mem_append, List.mem_singleton] at hy
        rcases hy with hy | rfl
        · have := i2 y hy; omega
        · simp only; omega
    · exact ⟨i1, fun y hy => by have := i2 y hy; omega⟩
theorem free_ord {l : List (Int × Int)} (hw : WFL l) : Ordd (freeL l) := by
  refine ⟨freeL_wf hw, ?_⟩
  obtain ⟨h1, h2⟩ := fpre_ord hw l.length (Nat.le_refl _)
  rw [List.take_length] at *
  unfold freeL
  split
  · refine List.pairwise_append.2 ⟨h1, List.pairwise_singleton _ _, fun a ha b hb => ?_⟩
    simp at hb; subst hb; exact h2 a ha
  · exact h1
end Go.Proofs.YtgdokpfepfmbmaaDoor

namespace Go.Proofs.YtgdokpfepfmbmaaDoor
set_option linter.unusedVariables false
set_option linter.unusedSimpArgs false
open Go.RowKit

abbrev Rw := Int × (Int × Int)
def RK : Kd Rw := { sz := 3, enc := fun r => [.int .i64 r.1, .int .i64 r.2.1, .int .i64 r.2.2], len := fun _ => rfl, one := by intro a v hv; simp at hv; rcases hv with rfl | rfl | rfl <;> rfl, pos := by decide }
theorem elR : ElT Tryd.prog 77 105 RK 24 := ElT.of (z := .agg #[.int .i64 0, .int .i64 0, .int .i64 0]) (by kernel_rfl) (by kernel_rfl) rfl

theorem Rd.rowAt {w : World} {l : List Rw} {g o n cap : Nat} (h : Rd RK w (.slice (some ⟨g, o, none⟩) n cap) l) {i : Nat} {x : Rw} (hx : l[i]? = some x) :
    w.cell? ⟨g, o + i * 3, none⟩ = some (.int .i64 x.1) ∧ w.cell? ⟨g, o + i * 3 + 1, none⟩ = some (.int .i64 x.2.1) ∧ w.cell? ⟨g, o + i * 3 + 2, none⟩ = some (.int .i64 x.2.2) ∧ w.cell? ⟨g, o + i * 3 + 1 + 1, none⟩ = some (.int .i64 x.2.2) :=
  ⟨h.at rfl hx (j := 0) rfl, h.at rfl hx (j := 1) rfl, h.at rfl hx (j := 2) rfl, h.at rfl hx (j := 2) rfl⟩

/-- The block br holds the slice V of the rows R. -/
structure RepR (w : World) (br : Nat) (R : List Rw) (V : Value) : Prop where
  blk : w.heap[br]? = some (.cells #[V] 79 (0, 0))
  rd : Rd RK w V R
  ne : ∀ g, V.ownBlock = some g → g ≠ br ∧ g < w.heap.size

theorem RepR.kp {w w' : World} {br : Nat} {R : List Rw} {V : Value} {S : Nat → Prop} (h : RepR w br R V) (hk : Kp S w w') (h1 : ¬ S br) (h2 : ∀ g, V.ownBlock = some g → ¬ S g) : RepR w' br R V :=
  ⟨hk.blk h.blk h1, h.rd.kp hk h2, fun g hg => ⟨(h.ne g hg).1, Nat.lt_of_lt_of_le (h.ne g hg).2 hk.size⟩⟩
theorem RepR.kpNo {w w' : World} {br : Nat} {R : List Rw} {V : Value} (h : RepR w br R V) (hk : Kp No w w') : RepR w' br R V := h.kp hk (no_no _) fun _ _ => no_no _

/-- The windows of a cell. -/
def flt (R : List Rw) (c : Int) : List (Int × Int) := (R.filter fun r => decide (r.1 = c)).map (·.2)
theorem flt_append (a b : List Rw) (c : Int) : flt (a ++ b) c = flt a c ++ flt b c := by simp [flt]
theorem flt_one (r : Rw) (c : Int) : flt [r] c = if r.1 = c then [r.2] else [] := by by_cases h : r.1 = c <;> simp [flt, h]
theorem flt_cons (r : Rw) (R : List Rw) (c : Int) : flt (r :: R) c = if r.1 = c then r.2 :: flt R c else flt R c := by by_cases h : r.1 = c <;> simp [flt, h]
theorem flt_snoc (R : List Rw) (k : Nat) (r : Rw) (c : Int) (h : R[k]? = some r) : flt (R.take (k + 1)) c = flt (R.take k) c ++ if r.1 = c then [r.2] else [] := by
  rw [List.take_add_one, h, Option.toList_some, flt_append, flt_one]
theorem flt_len (R : List Rw) (c : Int) : (flt R c).length ≤ R.length := by simp [flt]; exact List.length_filter_le _ _

set_option maxRecDepth 100000 in
theorem rtaken_any {w : World} {br : Nat} {R : List Rw} {V : Value} (h : RepR w br R V) (hlen : R.length ≤ 1000) (c : Int) :
    Calls Tryd.prog 25 #[.pointer (some ⟨br, 0, none⟩), .int .i64 c] w (RetNew WK 43 (flt R c) w) := by
  obtain ⟨A, cap, rfl⟩ := h.rd.shape
  have H := Lib.hid h
  clear h
  go_enter Tryd.func25, Tryd.ntmps25
  go_wp2
  go_loopw [5, 6] (fun v i wr => ∃ k : Nat, i = .int .i64 k ∧ k ≤ R.length ∧ Own WK 43 wr v (flt (R.take k) c) ∧ (∀ g, v.ownBlock = some g → w.heap.size ≤ g) ∧ Kp No w wr) (fun _ i _ => R.length - (intOf i).toNat)
  case atStart => exact ⟨0, rfl, by omega, Own.nil _ _ _, by simp [Value.ownBlock], Kp.refl _ _⟩
  case round =>
    obtain ⟨k, rfl, hk, ho, hge, hK⟩ := hrel
    have HR := Lib.hid (H.out.kpNo hK)
    have hb := (blk_cell HR.out.blk 0).trans rfl
    simp only [List.getElem?_toArray, List.getElem?_cons_zero] at hb
    by_cases hlt : k < R.length
    · obtain ⟨x, hx⟩ : ∃ x, R[k]? = some x := ⟨_, List.getElem?_eq_getElem hlt⟩
      rcases H.out.rd with ⟨hv, he⟩ | ⟨g, o, cap', hv, _⟩
      · rw [he] at hlt; simp at hlt
      simp only [Value.slice.injEq] at hv
      obtain ⟨rfl, _, rfl⟩ := hv
      obtain ⟨hc1, hc2, hc3, hc4⟩ := HR.out.rd.rowAt hx
      have hsn := flt_snoc R k x c hx
      have hfl : (flt (R.take k) c).length ≤ 1000 := by
        have := flt_len (R.take k) c
        have h2 : (R.take k).length ≤ R.length := by rw [List.length_take]; omega
        omega
      generalize flt (R.take k) c = sl at *
      have HO := Lib.hid ho; have HG := Lib.hid hge; have HK := Lib.hid hK; have HSN := Lib.hid hsn
      have hltI : (k : Int) < (R.length : Int) := by omega
      clear ho hge hK hsn hx hlt
      by_cases hxc : x.1 = c
      · go_wp2_with (at_builtin; refine wpl_append elW rfl (.tmp 26) (.tmp 35) rfl rfl rfl (l := sl) (m := [x.2]) ?c1 ?c2 ?c3 ?c4 ?c5)
        case c1 => exact HO.out.alloc _
        case c2 => exact Rd.litAt WK 43 _ _ [x.2] rfl (by unfold maxLen; simp) _ _ (by simp) rfl
        case c3 => show sl.length + 1 ≤ maxLen; unfold maxLen; omega
        case c4 => show (sl.length + 1) * 16 ≤ _; omega
        case c5 =>
          intro v' w' k1 k2 k3
          have Q1 := Lib.hid k1; have Q2 := Lib.hid k2; have Q3 := Lib.hid k3
          clear k1 k2 k3
          go_wp2
          go_roundw
          case rel =>
            have hsz := HK.out.size
            refine ⟨k + 1, by go_num, by omega, by rw [HSN.out, if_pos hxc]; exact Q1.out, ?_, (HK.out.alloc _).trans' Q2.out ?_⟩
            · intro q hq
              rcases Q3.out q hq with e | e
              · exact HG.out q e
              · omega
            · intro q hq e; have := HG.out q e; omega
          case measure => simp [intOf]; omega
      · go_wp2
        go_roundw
        case rel => exact ⟨k + 1, by go_num, by omega, by rw [HSN.out, if_neg hxc, List.append_nil]; exact HO.out, HG.out, HK.out⟩
        case measure => simp [intOf]; omega
    · obtain rfl : k = R.length := by omega
      rw [List.take_length] at ho
      have HO := Lib.hid ho; have HG := Lib.hid hge; have HK := Lib.hid hK
      clear ho hge hK
      have hd0 : ¬ (R.length : Int) < (R.length : Int) := by omega
      go_wp2
      go_ret
      exact ⟨_, rfl, HO.out, HK.out, HG.out⟩
end Go.Proofs.YtgdokpfepfmbmaaDoor

namespace Go.Proofs.YtgdokpfepfmbmaaDoor
set_option linter.unusedVariables false
set_option linter.unusedSimpArgs false
open Go.RowKit

set_option maxRecDepth 100000 in
theorem ris_any {w : World} {br : Nat} {R : List Rw} {V : Value} (h : RepR w br R V) (hlen : R.length ≤ 1000) (c m : Int) (r : Bool) (hr : r = (!inB m (flt R c) && (decide (0 ≤ m) && decide (m < 1048576)))) :
    Calls Tryd.prog 52 #[.pointer (some ⟨br, 0, none⟩), .int .i64 c, .int .i64 m] w fun e w' => e = .returned (.bool r) ∧ Kp No w w' := by
  have hl := flt_len R c
  have H := Lib.hid h
  have HRR := Lib.hid hr
  clear h hr
  go_enter Tryd.func52, Tryd.ntmps52
  go_wp2_with fail
  refine (rtaken_any H.out hlen c).mono ?_
  rintro e w1 ⟨v, rfl, a1, a2, a3⟩
  have a1 := a1.rd
  obtain ⟨A, cap, rfl⟩ := a1.shape
  have H1 := Lib.hid a1; have K1 := Lib.hid a2
  clear a1 a2 a3
  generalize flt R c = L at *
  go_wp2
  go_loopw [8] (fun i wr => ∃ k : Nat, i = .int .i64 k ∧ k ≤ L.length ∧ inB m (L.take k) = false ∧ Kp No w1 wr) (fun i _ => L.length - (intOf i).toNat)
  case atStart => exact ⟨0, rfl, by omega, rfl, Kp.refl _ _⟩
  case round =>
    obtain ⟨k, rfl, hk, hin, hK⟩ := hrel
    by_cases hlt : k < L.length
    · obtain ⟨x, hx⟩ : ∃ x, L[k]? = some x := ⟨_, List.getElem?_eq_getElem hlt⟩
      have HRD := Lib.hid (H1.out.kpNo hK)
      rcases H1.out with ⟨hv, he⟩ | ⟨g, o, cap', hv, _⟩
      · rw [he] at hlt; simp at hlt
      simp only [Value.slice.injEq] at hv
      obtain ⟨rfl, _, rfl⟩ := hv
      obtain ⟨hc1, hc2⟩ := HRD.out.winAt hx
      have hsn := inB_snoc m L k x hx
      rw [hin, Bool.false_or] at hsn
      have hany : (decide (x.1 ≤ m) && decide (m < x.2)) = true → inB m L = true := fun h => by
        simp only [inB, List.any_eq_true]; exact ⟨x, List.mem_of_getElem? hx, h⟩
      have HSN := Lib.hid hsn; have HK := Lib.hid hK; have HANY := Lib.hid hany
      have hltI : (k : Int) < (L.length : Int) := by omega
      clear hin hK hx hsn hany
      by_cases h1 : x.1 ≤ m
      · by_cases h2 : m < x.2
        · have hrt : r = false := by rw [HRR.out, HANY.out (by simp [h1, h2])]; simp
          subst hrt
          go_wp2
          go_ret
          exact ⟨rfl, K1.out.no HK.out⟩
        · go_wp2
          go_roundw
          case rel => exact ⟨k + 1, by go_num, by omega, by rw [HSN.out]; simp [h2], HK.out⟩
          case measure => simp [intOf]; omega
      · go_wp2
        go_roundw
        case rel => exact ⟨k + 1, by go_num, by omega, by rw [HSN.out]; simp [h1], HK.out⟩
        case measure => simp [intOf]; omega
    · obtain rfl : k = L.length := by omega
      rw [List.take_length] at hin
      have hrf := HRR.out
      rw [hin] at hrf
      simp only [Bool.not_false, Bool.true_and] at hrf
      have HK := Lib.hid hK
      clear hin hK
      have hd0 : ¬ (L.length : Int) < (L.length : Int) := by omega
      by_cases h1 : 0 ≤ m
      · by_cases h2 : m < 1048576
        · obtain rfl : r = true := by rw [hrf]; simp [h1, h2]
          clear hrf
          go_wp2
          go_ret
          exact ⟨rfl, K1.out.no HK.out⟩
        · obtain rfl : r = false := by rw [hrf]; simp [h2]
          clear hrf
          go_wp2
          go_ret
          exact ⟨rfl, K1.out.no HK.out⟩
      · obtain rfl : r = false := by rw [hrf]; simp [h1]
        clear hrf
        go_wp2
        go_ret
        exact ⟨rfl, K1.out.no HK.out⟩

def okW (a b : Int) : Prop := 0 ≤ a ∧ a < b ∧ b ≤ 1048576
set_option maxRecDepth 100000 in
theorem rright_any (w : World) (a b : Int) (r : Bool) (hr : r = (decide (0 ≤ a) && decide (a < b) && decide (b ≤ 1048576))) :
    Calls Tryd.prog 62 #[.agg #[.int .i64 a, .int .i64 b]] w fun e w' => e = .returned (.bool r) ∧ Kp No w w' := by
  have KA : Hid (Kp No w (w.alloc (.cells #[.int .i64 a, .int .i64 b] 43))) := (Kp.refl _ _).alloc _
  by_cases h1 : 0 ≤ a
  · by_cases h2 : a < b
    · by_cases h3 : b ≤ 1048576
      · obtain rfl : r = true := by rw [hr]; simp [h1, h2, h3]
        clear hr
        go_enter Tryd.func62, Tryd.ntmps62
        go_wp2
        go_ret
        exact ⟨rfl, KA.out⟩
      · obtain rfl : r = false := by rw [hr]; simp [h3]
        clear hr
        go_enter Tryd.func62, Tryd.ntmps62
        go_wp2
        go_ret
        exact ⟨rfl, KA.out⟩
    · obtain rfl : r = false := by rw [hr]; simp [h2]
      clear hr
      go_enter Tryd.func62, Tryd.ntmps62
      go_wp2
      go_ret
      exact ⟨rfl, KA.out⟩
  · obtain rfl : r = false := by rw [hr]; simp [h1]
    clear hr
    go_enter Tryd.func62, Tryd.ntmps62
    go_wp2
    go_ret
    exact ⟨rfl, KA.out⟩
end Go.Proofs.YtgdokpfepfmbmaaDoor

namespace Go.Proofs.YtgdokpfepfmbmaaDoor
set_option linter.unusedVariables false
set_option linter.unusedSimpArgs false
open Go.RowKit

section
variable {α : Type} {K : Kd α} {P : Program} {t e : TypeId} {bytes : Nat}
/-- 's[:hi]', as a list. -/
theorem Rd.upto (E : ElT P t e K bytes) {w : World} {v : Value} {l : List α} (h : Rd K w v l) (p : Nat) (hp : p ≤ l.length) (x : Int) (hx : x = p) :
    ∃ v2, (∀ w', (Instr.slice t v none (some (.int .i64 x)) none).run P w' = .ok v2 w') ∧ Rd K w v2 (l.take p) ∧ (∀ g, v2.ownBlock = some g → v.ownBlock = some g) := by
  rcases h with ⟨⟨A, c, rfl⟩, rfl⟩ | ⟨g, o, cap, rfl, h1, h2, h3⟩
  · obtain rfl : p = 0 := by simpa using hp
    subst hx
    exact ⟨_, fun w' => run_slice_e_hi E A c w', by simpa using Rd.empty K w A c, fun g hg => hg⟩
  · refine ⟨_, run_slice_hi E g o l.length cap p (by omega) x hx, .inr ⟨g, o, cap, by simp [Nat.min_eq_left hp], by simp; omega, h2, fun j u hu => ?_⟩, fun g' hg' => hg'⟩
    rw [← K.encs_take, List.getElem?_take] at hu
    split at hu
    · exact h3 j u hu
    · exact absurd hu (by simp)

/-- v reads as l, and lies in memory that is newer than w0. -/
structure NewS (K : Kd α) (e : TypeId) (w0 w : World) (v : Value) (l : List α) : Prop where
  own : Own K e w v l
  ge : ∀ g, v.ownBlock = some g → w0.heap.size ≤ g
  kp : Kp No w0 w
theorem NewS.nil (K : Kd α) (e : TypeId) (w : World) : NewS K e w w (.slice none 0 0) [] := ⟨Own.nil _ _ _, by simp [Value.ownBlock], Kp.refl _ _⟩
theorem NewS.kpNo {w0 w w' : World} {v : Value} {l : List α} (h : NewS K e w0 w v l) (hk : Kp No w w') : NewS K e w0 w' v l := ⟨h.own.kpNo hk, h.ge, h.kp.no hk⟩
theorem NewS.alloc {w0 w : World} {v : Value} {l : List α} (h : NewS K e w0 w v l) (o : Obj) : NewS K e w0 (w.alloc o) v l := h.kpNo ((Kp.refl _ _).alloc _)
theorem NewS.app {w0 w w1 w' : World} {v v' : Value} {l l' : List α} {n : Nat} (h : NewS K e w0 w v l) (hk : Kp No w w1) (k1 : Own K e w' v' l') (k2 : Kp (fun k => v.ownBlock = some k) w1 w') (k3 : ∀ g, v'.ownBlock = some g → v.ownBlock = some g ∨ n ≤ g) (hn : w.heap.size ≤ n) : NewS K e w0 w' v' l' := by
  have hs := h.kp.size
  have hs2 := hk.size
  refine ⟨k1, fun g hg => ?_, (h.kp.no hk).trans' k2 fun j hj e => ?_⟩
  · rcases k3 g hg with e | e
    · exact h.ge g e
    · omega
  · have := h.ge j e; omega
theorem NewS.app2 {w0 w w1 w' : World} {v v' : Value} {l l' : List α} {n : Nat} (k1 : Own K e w' v' l') (k2 : Kp (fun k => v.ownBlock = some k) w1 w') (k3 : ∀ g, v'.ownBlock = some g → v.ownBlock = some g ∨ n ≤ g) (hk : Kp No w w1) (h : NewS K e w0 w v l) (hn : w.heap.size ≤ n) : NewS K e w0 w' v' l' := h.app hk k1 k2 k3 hn
theorem NewS.empty (K : Kd α) (e : TypeId) (w : World) : NewS K e w (w.alloc (.cells #[] e)) (.slice (some ⟨w.heap.size, 0, none⟩) 0 0) ([] : List α) :=
  ⟨Own.lit K e w [] [] rfl (by simp), fun g hg => by simp [Value.ownBlock] at hg; omega, (Kp.refl _ _).alloc _⟩
end

end Go.Proofs.YtgdokpfepfmbmaaDoor

namespace Go.Proofs.YtgdokpfepfmbmaaDoor
set_option linter.unusedVariables false
set_option linter.unusedSimpArgs false
open Go.RowKit


/-- The rows are others: they lie in new memory. -/
def RefTo (br : Nat) (R' : List Rw) (V : Value) (w w' : World) : Prop := ∃ V', RepR w' br R' V' ∧ Kp (fun k => k = br) w w' ∧ ∀ g, V'.ownBlock = some g → V.ownBlock = some g ∨ w.heap.size ≤ g
theorem RefTo.same {w w' : World} {br : Nat} {R : List Rw} {V : Value} (h : RepR w br R V) (hk : Kp No w w') : RefTo br R V w w' := ⟨V, h.kpNo hk, hk.mono fun _ _ h => h.elim, fun _ h => .inl h⟩
theorem RefTo.store {w w0 wr : World} {br : Nat} {R R' : List Rw} {V v : Value} (h : RepR w br R V) (h0 : Kp No w w0) (hn : NewS RK 105 w0 wr v R') : RefTo br R' V w (wr.setCell ⟨br, 0, none⟩ v) := by
  have hb := lt_of_block h.blk
  have hs := h0.size
  have hk := h0.no hn.kp
  refine ⟨v, ⟨?_, hn.own.rd.kp ((Kp.refl (fun k => k = br) wr).setCell (fun _ => rfl) _) (fun g hg e => ?_), fun g hg => ⟨fun e => ?_, ?_⟩⟩, (hk.mono fun _ _ h => h.elim).trans ((Kp.refl (fun k => k = br) wr).setCell (fun _ => rfl) _), fun g hg => .inr ?_⟩
  · exact (blk_set (hk.blk h.blk (no_no _)) 0 v).trans rfl
  · have := hn.ge g hg; omega
  · have := hn.ge g hg; omega
  · have := hn.own.lt hg; simpa using this
  · have := hn.ge g hg; omega

theorem filter_snoc {α : Type} (p : α → Bool) (l : List α) (k : Nat) (x : α) (h : l[k]? = some x) : (l.take (k + 1)).filter p = (l.take k).filter p ++ if p x then [x] else [] := by
  rw [List.take_add_one, h, Option.toList_some, List.filter_append]
  by_cases hp : p x <;> simp [hp]

def rforget (R : List Rw) (m : Int) : List Rw := R.filter fun r => decide (m < r.2.2)

theorem eqlR (x y : Rw) (b : Bool) (hb : b = decide (x = y)) (w : World) : (binOp .eql 105 (.agg #[.int .i64 x.1, .int .i64 x.2.1, .int .i64 x.2.2]) (.agg #[.int .i64 y.1, .int .i64 y.2.1, .int .i64 y.2.2])).run Tryd.prog w = .ok (.bool b) w := by
  subst hb
  have h : decide (x = y) = (decide (x.1 = y.1) && (decide (x.2.1 = y.2.1) && decide (x.2.2 = y.2.2))) := by
    rw [← Bool.decide_and, ← Bool.decide_and]; exact decide_eq_decide.2 (by rw [Prod.ext_iff, Prod.ext_iff])
  rw [h]
  by_cases h1 : x.1 = y.1 <;> by_cases h2 : x.2.1 = y.2.1 <;> by_cases h3 : x.2.2 = y.2.2 <;> simp [binOp, Op.equal, Op.maxDepth, go_sem, h1, h2, h3]

theorem erase_at (R : List Rw) (y : Rw) : ∀ k, R[k]? = some y → (∀ j, j < k → R[j]? ≠ some y) → R.erase y = R.take k ++ R.drop (k + 1) := by
  induction R with
  | nil => intro k h; simp at h
  | cons r R ih =>
    intro k h hn
    cases k with
    | zero => simp at h; subst h; simp
    | succ k =>
      have h0 : r ≠ y := fun e => hn 0 (by omega) (by simp [e])
      rw [List.erase_cons_tail (by simpa using h0)]
      simp only [List.take_succ_cons, List.drop_succ_cons, List.cons_append, List.cons.injEq, true_and]
      exact ih k (by simpa using h) fun j hj e => hn (j + 1) (by omega) (by simpa using e)

def rdropE (R : List Rw) (y : Rw) : Int := if y ∈ R then 0 else 2
end Go.Proofs.YtgdokpfepfmbmaaDoor

namespace Go.Proofs.YtgdokpfepfmbmaaDoor
set_option linter.unusedVariables false
set_option linter.unusedSimpArgs false
open Go.RowKit

def rok (a b : Int) : Bool := decide (0 ≤ a) && decide (a < b) && decide (b ≤ 1048576)
def rover (L : List (Int × Int)) (a b : Int) : Bool := L.any fun x => decide (x.1 < b) && decide (a < x.2)
def rtakeE (R : List Rw) (c a b : Int) : Int := if rok a b then (if rover (flt R c) a b then 3 else 0) else 1
def posR (R : List Rw) (c a : Int) : Nat := (R.takeWhile fun r => !(decide (r.1 = c) && decide (a ≤ r.2.1))).length
def insR (R : List Rw) (c a b : Int) : List Rw := R.take (posR R c a) ++ [(c, (a, b))] ++ R.drop (posR R c a)
def rtakeR (R : List Rw) (c a b : Int) : List Rw := if rtakeE R c a b = 0 then insR R c a b else R

theorem rover_snoc (L : List (Int × Int)) (a b : Int) (k : Nat) (x : Int × Int) (h : L[k]? = some x) : rover (L.take (k + 1)) a b = (rover (L.take k) a b || (decide (x.1 < b) && decide (a < x.2))) := by
  rw [List.take_add_one, h]
  simp [rover]
theorem posR_eq (R : List Rw) (c a : Int) : ∀ k, k ≤ R.length → (∀ (j : Nat) (y : Rw), j < k → R[j]? = some y → ¬ (y.1 = c ∧ a ≤ y.2.1)) → (∀ y, R[k]? = some y → y.1 = c ∧ a ≤ y.2.1) → posR R c a = k := by
  induction R with
  | nil => intro k hk _ _; simp at hk; simp [posR, hk]
  | cons r R ih =>
    intro k hk h1 h2
    cases k with
    | zero => have := h2 r rfl; simp [posR, this]
    | succ k =>
      have h0 := h1 0 r (by omega) rfl
      have : (!(decide (r.1 = c) && decide (a ≤ r.2.1))) = true := by
        simp only [Bool.not_eq_true', Bool.and_eq_false_iff, decide_eq_false_iff_not]
        by_cases e : r.1 = c
        · right; intro e2; exact h0 ⟨e, e2⟩
        · left; exact e
      unfold posR
      rw [List.takeWhile_cons, if_pos this, List.length_cons]
      congr 1
      exact ih k (by simpa using hk) (fun j y hj hy => h1 (j + 1) y (by omega) (by simpa using hy)) (fun y hy => h2 y (by simpa using hy))

set_option maxHeartbeats 2000000 in
set_option maxRecDepth 100000 in
theorem rtake_any {w : World} {br : Nat} {R : List Rw} {V : Value} (h : RepR w br R V) (hlen : R.length ≤ 1000) (c a b : Int) (r : Int) (hr : r = rtakeE R c a b) :
    Calls Tryd.prog 34 #[.pointer (some ⟨br, 0, none⟩), .int .i64 c, .agg #[.int .i64 a, .int .i64 b]] w fun e w' => e = .returned (.int .i64 r) ∧ RefTo br (rtakeR R c a b) V w w' := by
  have HRR := Lib.hid hr
  obtain ⟨w0, hw0⟩ : ∃ w0 : World, w0 = w.alloc (.cells #[.int .i64 a, .int .i64 b] 43) := ⟨_, rfl⟩
  have hp0 : w0.heap[w.heap.size]? = some (.cells #[.int .i64 a, .int .i64 b] 43 (0, 0)) := hw0 ▸ blk_new w _
  have hk0 : Kp No w w0 := hw0 ▸ (Kp.refl _ _).alloc _
  obtain ⟨A, cap, rfl⟩ := h.rd.shape
  have H := Lib.hid h
  have HP := Lib.hid hp0; have K0 := Lib.hid hk0
  clear h hr hp0 hk0
  obtain ⟨q, hq⟩ : ∃ q, q = rok a b := ⟨_, rfl⟩
  have HQ := Lib.hid hq
  clear hq
  go_enter Tryd.func34, Tryd.ntmps34
  go_wp2_with fail
  rw [← hw0]
  clear hw0
  refine (rright_any _ a b q HQ.out).mono ?_
  rintro e w1 ⟨rfl, k1⟩
  have K1 := Lib.hid (K0.out.no k1)
  obtain ⟨hp1, hp2⟩ := box2 HP.out k1
  have KB := Lib.hid k1
  clear k1
  cases q with
  | false =>
    obtain rfl : r = 1 := by rw [HRR.out]; simp [rtakeE, ← HQ.out]
    have hrr : Hid (rtakeR R c a b = R) := by unfold Hid rtakeR; rw [← HRR.out]; rfl
    go_wp2
    go_ret
    exact ⟨rfl, by rw [hrr.out]; exact RefTo.same H.out K1.out⟩
  | true =>
    have hE : r = if rover (flt R c) a b then 3 else 0 := by rw [HRR.out]; simp [rtakeE, ← HQ.out]
    have HR1 := Lib.hid (H.out.kpNo K1.out)
    have HE := Lib.hid hE
    clear hE
    go_wp2_with fail
    refine (rtaken_any HR1.out hlen c).mono ?_
    rintro e w2 ⟨v, rfl, a1, a2, _⟩
    have a1 := a1.rd
    obtain ⟨B, q1, rfl⟩ := a1.shape
    have hl1 := flt_len R c
    obtain ⟨hp3, hp4⟩ := box2 HP.out (KB.out.no a2)
    have KB2 := Lib.hid (KB.out.no a2)
    have K2 := Lib.hid (K1.out.no a2); have H1 := Lib.hid a1
    clear a1 a2 hp1 hp2
    generalize hL : flt R c = L at *
    have HL := Lib.hid hL
    clear hL
    go_wp2
    go_loopw [8] (fun i wr => ∃ k : Nat, i = .int .i64 k ∧ k ≤ L.length ∧ rover (L.take k) a b = false ∧ Kp No w2 wr) (fun i _ => L.length - (intOf i).toNat)
    case atStart => exact ⟨0, rfl, by omega, rfl, Kp.refl _ _⟩
    case round =>
      obtain ⟨k, rfl, hk, hin, hK⟩ := hrel
      obtain ⟨hp1, hp2⟩ := box2 HP.out (KB2.out.no hK)
      have HK := Lib.hid hK
      by_cases hlt : k < L.length
      · obtain ⟨x, hx⟩ : ∃ x, L[k]? = some x := ⟨_, List.getElem?_eq_getElem hlt⟩
        have HRD := Lib.hid (H1.out.kpNo hK)
        rcases H1.out with ⟨hv, he⟩ | ⟨g, o, cap', hv, _⟩
        · rw [he] at hlt; simp at hlt
        simp only [Value.slice.injEq] at hv
        obtain ⟨rfl, _, rfl⟩ := hv
        obtain ⟨hc1, hc2⟩ := HRD.out.winAt hx
        have hsn := rover_snoc L a b k x hx
        rw [hin, Bool.false_or] at hsn
        have hany : (decide (x.1 < b) && decide (a < x.2)) = true → rover L a b = true := fun h => by
          simp only [rover, List.any_eq_true]; exact ⟨x, List.mem_of_getElem? hx, h⟩
        have HSN := Lib.hid hsn; have HANY := Lib.hid hany
        have hltI : (k : Int) < (L.length : Int) := by omega
        clear hin hK hx hsn hany
        cases h1 : decide (x.1 < b) with
        | true =>
          cases h2 : decide (a < x.2) with
          | true =>
            obtain rfl : r = 3 := by rw [HE.out, HANY.out (by simp [h1, h2])]; rfl
            have hrr : Hid (rtakeR R c a b = R) := by unfold Hid rtakeR; rw [← HRR.out]; rfl
            go_wp2
            go_quiet (fail)
            go_wp2
            go_ret
            exact ⟨rfl, by rw [hrr.out]; exact RefTo.same H.out (K2.out.no (HK.out.drewN _))⟩
          | false =>
            go_wp2
            go_quiet (fail)
            go_wp2
            go_roundw
            case rel => exact ⟨k + 1, by go_num, by omega, by rw [HSN.out, h1, h2]; rfl, HK.out.drewN _⟩
            case measure => simp [intOf]; omega
        | false =>
          go_wp2
          go_quiet (fail)
          go_wp2
          go_roundw
          case rel => exact ⟨k + 1, by go_num, by omega, by rw [HSN.out, h1]; rfl, HK.out.drewN _⟩
          case measure => simp [intOf]; omega
      · obtain rfl : k = L.length := by omega
        rw [List.take_length] at hin
        obtain rfl : r = 0 := by rw [HE.out, hin]; rfl
        have hrr : Hid (rtakeR R c a b = insR R c a b) := by unfold Hid rtakeR; rw [← HRR.out]; rfl
        have hd0 : ¬ (L.length : Int) < (L.length : Int) := by omega
        have hd1 : ¬ (4096 : Int) ≤ (L.length : Int) := by omega
        have K3 := Lib.hid (K2.out.no hK)
        have KB3 := Lib.hid (KB2.out.no hK)
        clear hin hK
        go_wp2
        go_loopw [9] (fun i wr' => ∃ k : Nat, i = .int .i64 k ∧ k ≤ R.length ∧ (∀ (j : Nat) (y : Rw), j < k → R[j]? = some y → ¬ (y.1 = c ∧ a ≤ y.2.1)) ∧ Kp No wr wr') (fun i _ => R.length - (intOf i).toNat)
        case atStart => exact ⟨0, rfl, by omega, by omega, Kp.refl _ _⟩
        case round =>
          obtain ⟨k, rfl, hk', hnot, hK⟩ := hrel
          have HK := Lib.hid hK
          have HR4 := Lib.hid (H.out.kpNo (K3.out.no hK))
          have hb := (blk_cell HR4.out.blk 0).trans rfl
          obtain ⟨hp7, hp8⟩ := box2 HP.out (KB3.out.no hK)
          have KB4 := Lib.hid (KB3.out.no hK)
          have K4 := Lib.hid (K3.out.no hK)
          have HRD := Lib.hid H.out.rd
          simp only [List.getElem?_toArray, List.getElem?_cons_zero] at hb
          have hb' : ∀ n ob, ((wr.drewN n).alloc ob).cell? ⟨br, 0, none⟩ = some (.slice A R.length cap) := fun n o => ((Kp.refl No wr).drewN n).alloc o |>.cellS hb (no_no _)
          clear hK
          by_cases hlt : k < R.length
          · obtain ⟨y, hy⟩ : ∃ y, R[k]? = some y := ⟨_, List.getElem?_eq_getElem hlt⟩
            rcases H.out.rd with ⟨hv, he⟩ | ⟨g, o, cap', hv, _⟩
            · rw [he] at hlt; simp at hlt
            simp only [Value.slice.injEq] at hv
            obtain ⟨rfl, _, rfl⟩ := hv
            obtain ⟨hc1, hc2, hc3, hc4⟩ := HR4.out.rd.rowAt hy
            have hltI : (k : Int) < (R.length : Int) := by omega
            have hltD : decide ((k : Int) < (R.length : Int)) = true := decide_eq_true hltI
            have HY := Lib.hid hy
            clear hy hlt
            cases g1 : (y.1 != c) with
            | true =>
              have HN := Lib.hid hnot
              clear hnot
              go_wp2
              go_quiet (fail)
              go_wp2
              go_roundw
              case rel =>
                refine ⟨k + 1, by go_num, by omega, fun j z hj hz => ?_, HK.out.drewN _⟩
                by_cases hjk : j = k
                · subst hjk
                  rw [HY.out] at hz
                  obtain rfl : y = z := Option.some.inj hz
                  intro e
                  simp [e.1] at g1
                · exact HN.out j z (by omega) hz
              case measure => simp [intOf]; omega
            | false =>
              cases g2 : decide (y.2.1 < a) with
              | true =>
                have HN := Lib.hid hnot
                clear hnot
                go_wp2
                go_quiet (fail)
                go_wp2
                go_roundw
                case rel =>
                  refine ⟨k + 1, by go_num, by omega, fun j z hj hz => ?_, HK.out.drewN _⟩
                  by_cases hjk : j = k
                  · subst hjk
                    rw [HY.out] at hz
                    obtain rfl : y = z := Option.some.inj hz
                    intro e
                    have := of_decide_eq_true g2
                    omega
                  · exact HN.out j z (by omega) hz
                case measure => simp [intOf]; omega
              | false =>
                have hpk := posR_eq R c a k hk' hnot (fun z hz => by rw [HY.out] at hz; obtain rfl : y = z := Option.some.inj hz; have h1 := of_decide_eq_false g2; exact ⟨by simpa using g1, by omega⟩)
                obtain ⟨v3, hsl, hrd3, _⟩ := HRD.out.upto elR k hk' k rfl
                obtain ⟨v4, hsl4, hrd4, _⟩ := HRD.out.from elR k hk' k rfl
                obtain ⟨B3, q3, rfl⟩ := hrd3.shape
                obtain ⟨B4, q4, rfl⟩ := hrd4.shape
                have HRa := Lib.hid hrd3; have HRb := Lib.hid hrd4
                have hI : insR R c a b = [] ++ R.take k ++ [(c, (a, b))] ++ R.drop k := by unfold insR; rw [hpk]; rfl
                have hl3 : (R.take k).length ≤ 1000 := by rw [List.length_take]; omega
                have hl4 : (R.drop k).length ≤ 1000 := by rw [List.length_drop]; omega
                have HI := Lib.hid hI
                generalize R.take k = l1 at *
                generalize R.drop k = l2 at *
                clear hrd3 hrd4 hpk hI hnot
                go_wp2
                go_quiet (fail)
                go_wp2_with (at_builtin; refine wpl_append elR rfl (.tmp 79) (.tmp 85) rfl rfl rfl (l := []) (m := l1) ?c1 ?c2 ?c3 ?c4 ?c5)
                case c1 => exact (NewS.empty RK 105 _).own
                case c2 => exact (HRa.out.kpNo ((K4.out.drewN _).alloc _))
                case c3 => show 0 + l1.length ≤ maxLen; unfold maxLen; omega
                case c4 => show (0 + l1.length) * 24 ≤ _; omega
                case c5 =>
                  intro v5 w5 k1 k2 k3
                  have Q5 := Lib.hid (NewS.app2 k1 k2 k3 (Kp.refl _ _) (NewS.empty RK 105 _) (by simp))
                  clear k1 k2 k3
                  obtain ⟨A5, q5, rfl⟩ := Q5.out.own.rd.shape
                  have KW5 := Lib.hid ((K4.out.drewN _).no Q5.out.kp)
                  have HR5 := Lib.hid (H.out.kpNo KW5.out)
                  have hb5 := (blk_cell HR5.out.blk 0).trans rfl
                  obtain ⟨hp5, hp6⟩ := box2 HP.out ((KB4.out.drewN _).no Q5.out.kp)
                  simp only [List.getElem?_toArray, List.getElem?_cons_zero] at hb5
                  go_wp2_with (at_builtin; refine wpl_append elR rfl (.tmp 87) (.tmp 91) rfl rfl rfl (l := [] ++ l1) (m := [(c, (a, b))]) ?d1 ?d2 ?d3 ?d4 ?d5)
                  case d1 => exact (Q5.out.alloc _).own
                  case d2 => exact Rd.litAt RK 105 _ _ [(c, (a, b))] rfl (by unfold maxLen; simp) _ _ rfl rfl
                  case d3 => show l1.length + 1 ≤ maxLen; unfold maxLen; omega
                  case d4 => show (l1.length + 1) * 24 ≤ _; omega
                  case d5 =>
                    intro v6 w6 k1 k2 k3
                    have Q6 := Lib.hid (NewS.app2 k1 k2 k3 (Kp.refl _ _) (Q5.out.alloc _) (by simp))
                    clear k1 k2 k3
                    obtain ⟨A6, q6, rfl⟩ := Q6.out.own.rd.shape
                    have Q6b := Q6.out
                    rw [List.length_append] at Q6b
                    have Q6c := Lib.hid Q6b
                    clear Q6b
                    have KW6 := Lib.hid ((K4.out.drewN _).no Q6.out.kp)
                    have HR6 := Lib.hid (H.out.kpNo KW6.out)
                    have hb6 := (blk_cell HR6.out.blk 0).trans rfl
                    simp only [List.getElem?_toArray, List.getElem?_cons_zero] at hb6
                    go_wp2_with (at_builtin; refine wpl_append elR rfl (.tmp 93) (.tmp 99) rfl rfl rfl (l := [] ++ l1 ++ [(c, (a, b))]) (m := l2) ?e1 ?e2 ?e3 ?e4 ?e5)
                    case e1 => exact Q6.out.own
                    case e2 => exact HRb.out.kpNo KW6.out
                    case e3 => simp; unfold maxLen; omega
                    case e4 => simp; omega
                    case e5 =>
                      intro v7 w7 k1 k2 k3
                      have Q7 := Lib.hid (NewS.app2 k1 k2 k3 (Kp.refl _ _) Q6c.out (by omega))
                      clear k1 k2 k3
                      obtain ⟨A7, q7, rfl⟩ := Q7.out.own.rd.shape
                      have KW7 := Lib.hid ((K4.out.drewN _).no Q7.out.kp)
                      have HR7 := Lib.hid (H.out.kpNo KW7.out)
                      have hb7 := (blk_cell HR7.out.blk 0).trans rfl
                      have hbf7 := blk_free HR7.out.blk 0
                      go_wp2
                      go_ret
                      refine ⟨rfl, ?_⟩
                      have h7 := Q7.out
                      simp only [List.length_append, List.length_cons] at h7
                      have hll : [] ++ l1 ++ [(c, (a, b))] ++ l2 = l1 ++ (c, (a, b)) :: l2 := by simp
                      rw [hrr.out, HI.out, hll]
                      exact RefTo.store H.out (K4.out.drewN _) h7
          · skip
            have hpk := posR_eq R c a k hk' hnot (fun z hz => absurd (List.getElem?_eq_some_iff.1 hz).1 hlt)
            obtain ⟨v3, hsl, hrd3, _⟩ := HRD.out.upto elR k hk' k rfl
            obtain ⟨v4, hsl4, hrd4, _⟩ := HRD.out.from elR k hk' k rfl
            obtain ⟨B3, q3, rfl⟩ := hrd3.shape
            obtain ⟨B4, q4, rfl⟩ := hrd4.shape
            have HRa := Lib.hid hrd3; have HRb := Lib.hid hrd4
            have hI : insR R c a b = [] ++ R.take k ++ [(c, (a, b))] ++ R.drop k := by unfold insR; rw [hpk]; rfl
            have hl3 : (R.take k).length ≤ 1000 := by rw [List.length_take]; omega
            have hl4 : (R.drop k).length ≤ 1000 := by rw [List.length_drop]; omega
            have HI := Lib.hid hI
            generalize R.take k = l1 at *
            generalize R.drop k = l2 at *
            clear hrd3 hrd4 hpk hI hnot
            have hk3 : decide ((k : Int) < (R.length : Int)) = false := decide_eq_false (by omega)
            go_wp2
            go_quiet (fail)
            go_wp2_with (at_builtin; refine wpl_append elR rfl (.tmp 79) (.tmp 85) rfl rfl rfl (l := []) (m := l1) ?c1 ?c2 ?c3 ?c4 ?c5)
            case c1 => exact (NewS.empty RK 105 _).own
            case c2 => exact (HRa.out.kpNo ((K4.out.drewN _).alloc _))
            case c3 => show 0 + l1.length ≤ maxLen; unfold maxLen; omega
            case c4 => show (0 + l1.length) * 24 ≤ _; omega
            case c5 =>
              intro v5 w5 k1 k2 k3
              have Q5 := Lib.hid (NewS.app2 k1 k2 k3 (Kp.refl _ _) (NewS.empty RK 105 _) (by simp))
              clear k1 k2 k3
              obtain ⟨A5, q5, rfl⟩ := Q5.out.own.rd.shape
              have KW5 := Lib.hid ((K4.out.drewN _).no Q5.out.kp)
              have HR5 := Lib.hid (H.out.kpNo KW5.out)
              have hb5 := (blk_cell HR5.out.blk 0).trans rfl
              obtain ⟨hp5, hp6⟩ := box2 HP.out ((KB4.out.drewN _).no Q5.out.kp)
              simp only [List.getElem?_toArray, List.getElem?_cons_zero] at hb5
              go_wp2_with (at_builtin; refine wpl_append elR rfl (.tmp 87) (.tmp 91) rfl rfl rfl (l := [] ++ l1) (m := [(c, (a, b))]) ?d1 ?d2 ?d3 ?d4 ?d5)
              case d1 => exact (Q5.out.alloc _).own
              case d2 => exact Rd.litAt RK 105 _ _ [(c, (a, b))] rfl (by unfold maxLen; simp) _ _ rfl rfl
              case d3 => show l1.length + 1 ≤ maxLen; unfold maxLen; omega
              case d4 => show (l1.length + 1) * 24 ≤ _; omega
              case d5 =>
                intro v6 w6 k1 k2 k3
                have Q6 := Lib.hid (NewS.app2 k1 k2 k3 (Kp.refl _ _) (Q5.out.alloc _) (by simp))
                clear k1 k2 k3
                obtain ⟨A6, q6, rfl⟩ := Q6.out.own.rd.shape
                have Q6b := Q6.out
                rw [List.length_append] at Q6b
                have Q6c := Lib.hid Q6b
                clear Q6b
                have KW6 := Lib.hid ((K4.out.drewN _).no Q6.out.kp)
                have HR6 := Lib.hid (H.out.kpNo KW6.out)
                have hb6 := (blk_cell HR6.out.blk 0).trans rfl
                simp only [List.getElem?_toArray, List.getElem?_cons_zero] at hb6
                go_wp2_with (at_builtin; refine wpl_append elR rfl (.tmp 93) (.tmp 99) rfl rfl rfl (l := [] ++ l1 ++ [(c, (a, b))]) (m := l2) ?e1 ?e2 ?e3 ?e4 ?e5)
                case e1 => exact Q6.out.own
                case e2 => exact HRb.out.kpNo KW6.out
                case e3 => simp; unfold maxLen; omega
                case e4 => simp; omega
                case e5 =>
                  intro v7 w7 k1 k2 k3
                  have Q7 := Lib.hid (NewS.app2 k1 k2 k3 (Kp.refl _ _) Q6c.out (by omega))
                  clear k1 k2 k3
                  obtain ⟨A7, q7, rfl⟩ := Q7.out.own.rd.shape
                  have KW7 := Lib.hid ((K4.out.drewN _).no Q7.out.kp)
                  have HR7 := Lib.hid (H.out.kpNo KW7.out)
                  have hb7 := (blk_cell HR7.out.blk 0).trans rfl
                  have hbf7 := blk_free HR7.out.blk 0
                  go_wp2
                  go_ret
                  refine ⟨rfl, ?_⟩
                  have h7 := Q7.out
                  simp only [List.length_append, List.length_cons] at h7
                  have hll : [] ++ l1 ++ [(c, (a, b))] ++ l2 = l1 ++ (c, (a, b)) :: l2 := by simp
                  rw [hrr.out, HI.out, hll]
                  exact RefTo.store H.out (K4.out.drewN _) h7
end Go.Proofs.YtgdokpfepfmbmaaDoor

namespace Go.Proofs.YtgdokpfepfmbmaaDoor
set_option linter.unusedVariables false
set_option linter.unusedSimpArgs false
open Go.RowKit

theorem over_eq {l : List (Int × Int)} (hw : WFL l) {a b : Int} (hab : a < b) : rover l a b = (match l[place l a]? with | some x => decide (x.1 < b) | none => false) := by
  have h1 : rover (l.take (place l a)) a b = false := by
    simp only [rover, List.any_eq_false]
    intro x hx
    have := place_before hx
    simp; omega
  have h0 : rover l a b = rover (l.take (place l a) ++ l.drop (place l a)) a b := by rw [List.take_append_drop]
  have h2 : rover l a b = rover (l.drop (place l a)) a b := by rw [h0]; unfold rover at h1 ⊢; rw [List.any_append, h1, Bool.false_or]
  rw [h2]
  cases hx : l[place l a]? with
  | none => rw [List.drop_eq_nil_of_le (List.getElem?_eq_none_iff.1 hx)]; rfl
  | some x =>
    have hlt := (List.getElem?_eq_some_iff.1 hx).1
    have hd : l.drop (place l a) = x :: l.drop (place l a + 1) := by
      rw [List.drop_eq_getElem_cons hlt]; congr 1; exact (List.getElem?_eq_some_iff.1 hx).2
    have hxm : a < x.2 := place_behind hw (by rw [hd]; exact List.mem_cons_self)
    have hp : (x :: l.drop (place l a + 1)).Pairwise (fun a b => a.2 ≤ b.1) := hd ▸ hw.ord.sublist (List.drop_sublist _ _)
    have hxr := hw.rt x (List.mem_of_getElem? hx)
    rw [hd]
    simp only [rover, List.any_cons, hxm, decide_true, Bool.and_true]
    by_cases c : x.1 < b
    · simp [c]
    · simp only [c, decide_false, Bool.false_or, List.any_eq_false]
      intro y hy
      have := (List.pairwise_cons.1 hp).1 y hy
      simp; omega

theorem posR_take (R : List Rw) (c a : Int) : R.take (posR R c a) = R.takeWhile fun r => !(decide (r.1 = c) && decide (a ≤ r.2.1)) := by
  unfold posR
  conv => lhs; arg 2; rw [← List.takeWhile_append_dropWhile (p := fun r : Rw => !(decide (r.1 = c) && decide (a ≤ r.2.1))) (l := R)]
  exact List.take_left
theorem posR_drop (R : List Rw) (c a : Int) : R.drop (posR R c a) = R.dropWhile fun r => !(decide (r.1 = c) && decide (a ≤ r.2.1)) := by
  unfold posR
  conv => lhs; arg 2; rw [← List.takeWhile_append_dropWhile (p := fun r : Rw => !(decide (r.1 = c) && decide (a ≤ r.2.1))) (l := R)]
  exact List.drop_left
theorem posR_before {R : List Rw} {c a : Int} {x : Int × Int} (h : x ∈ flt (R.take (posR R c a)) c) : x.1 < a := by
  rw [posR_take] at h
  simp only [flt, List.mem_map, List.mem_filter, decide_eq_true_eq] at h
  obtain ⟨r, ⟨h1, h2⟩, rfl⟩ := h
  induction R with
  | nil => simp at h1
  | cons y R ih =>
    rw [List.takeWhile_cons] at h1
    split at h1
    · rename_i hy
      simp only [List.mem_cons] at h1
      rcases h1 with rfl | h1
      · simp [h2] at hy; exact hy
      · exact ih h1
    · simp at h1
theorem posR_behind {R : List Rw} {c a : Int} (hw : WFL (flt R c)) {x : Int × Int} (h : x ∈ flt (R.drop (posR R c a)) c) : a < x.2 := by
  have hl : flt R c = flt (R.take (posR R c a)) c ++ flt (R.drop (posR R c a)) c := by rw [← flt_append, List.take_append_drop]
  rw [hl] at hw
  cases hd : R.drop (posR R c a) with
  | nil => rw [hd] at h; simp [flt] at h
  | cons y D =>
    have hy : y.1 = c ∧ a ≤ y.2.1 := by
      rw [posR_drop] at hd
      have := List.head?_dropWhile_not (fun r : Rw => !(decide (r.1 = c) && decide (a ≤ r.2.1))) R
      rw [hd] at this
      simpa using this
    rw [hd, flt_cons, if_pos hy.1] at h hw
    have hyr := hw.rt y.2 (by simp)
    simp only [List.mem_cons] at h
    rcases h with rfl | h
    · omega
    · have hp := (List.pairwise_cons.1 (List.pairwise_append.1 hw.ord).2.1).1 x h
      have hxr := hw.rt x (by simp [h])
      omega

theorem ref_take {R : List Rw} {T : Int → List (Int × Int)} (hR : ∀ c, flt R c = T c) (hT : WFT T) (hl : R.length ≤ 1000) (c a b : Int) : rtakeE R c a b = takeE (T c) a b ∧ ∀ c', flt (rtakeR R c a b) c' = takeT T c a b c' := by
  have hw := hT c
  rw [← hR] at hw
  have hfl := flt_len R c
  have hE : rtakeE R c a b = takeE (T c) a b := by
    rw [← hR]
    unfold rtakeE takeE rok
    by_cases hok : 0 ≤ a ∧ a < b ∧ b ≤ 1048576
    · have h4 : ¬ 4096 ≤ (flt R c).length := by omega
      rw [if_neg (not_not_intro hok), over_eq hw hok.2.1]
      cases (flt R c)[place (flt R c) a]? with
      | none => simp [hok, h4]
      | some x => simp [hok, h4]
    · rw [if_pos hok, if_neg]
      simp only [Bool.and_eq_true, decide_eq_true_eq]
      intro h; exact hok ⟨h.1.1, h.1.2, h.2⟩
  refine ⟨hE, fun c' => ?_⟩
  unfold rtakeR takeT
  rw [← hE]
  by_cases h0 : rtakeE R c a b = 0
  · rw [if_pos h0, if_pos h0]
    have hok : a < b := by
      unfold rtakeE rok at h0
      split at h0
      · rename_i h; simp at h; exact h.1.2
      · simp at h0
    have hov : rover (flt R c) a b = false := by
      unfold rtakeE at h0
      split at h0
      · split at h0
        · simp at h0
        · rename_i h; simpa using h
      · simp at h0
    have hl : flt R c = flt (R.take (posR R c a)) c ++ flt (R.drop (posR R c a)) c := by rw [← flt_append, List.take_append_drop]
    have hpl : place (flt R c) a = (flt (R.take (posR R c a)) c).length := by
      refine place_eq _ _ _ (by rw [hl]; simp) (fun k x hx hk => ?_) (fun k x hx hk => ?_)
      · have hm : x ∈ flt (R.take (posR R c a)) c := by
          rw [hl, List.getElem?_append_left hk] at hx
          exact List.mem_of_getElem? hx
        have h1 := posR_before hm
        simp only [rover, List.any_eq_false] at hov
        have := hov x (by rw [hl]; simp [hm])
        simp at this; omega
      · have hm : x ∈ flt (R.drop (posR R c a)) c := by
          rw [hl, List.getElem?_append_right hk] at hx
          exact List.mem_of_getElem? hx
        exact posR_behind hw hm
    unfold insR setT
    by_cases hc : c' = c
    · subst hc
      rw [if_pos rfl, ← hR, hpl, flt_append, flt_append, flt_one, if_pos rfl]
      unfold insL
      conv => rhs; rw [hl]
      rw [List.take_left, List.drop_left]
    · rw [if_neg hc, flt_append, flt_append, flt_one, if_neg (fun e => hc e.symm), List.append_nil, ← flt_append, List.take_append_drop, hR]
  · rw [if_neg h0, if_neg h0, hR]

theorem flt_mem (R : List Rw) (c : Int) (x : Int × Int) : (c, x) ∈ R ↔ x ∈ flt R c := by
  simp only [flt, List.mem_map, List.mem_filter, decide_eq_true_eq]
  constructor
  · intro h; exact ⟨(c, x), ⟨h, rfl⟩, rfl⟩
  · rintro ⟨r, ⟨h1, h2⟩, rfl⟩; subst h2; exact h1
theorem flt_erase (R : List Rw) (c c' : Int) (x : Int × Int) : flt (R.erase (c, x)) c' = if c' = c then (flt R c).erase x else flt R c' := by
  induction R with
  | nil => simp [flt]
  | cons r R ih =>
    by_cases hr : r = (c, x)
    · subst hr
      rw [List.erase_cons_head, flt_cons, flt_cons]
      by_cases hc : c' = c
      · subst hc; simp
      · have : ¬ c = c' := fun e => hc e.symm
        simp [hc, this]
    · rw [List.erase_cons_tail (by simpa using hr), flt_cons, ih, flt_cons, flt_cons]
      by_cases hc : c' = c
      · subst hc
        by_cases h1 : r.1 = c'
        · have : ¬ r.2 = x := fun e => hr (Prod.ext h1 e)
          simp [h1, List.erase_cons_tail, this]
        · simp [h1]
      · simp [hc]
theorem ref_drop {R : List Rw} {T : Int → List (Int × Int)} (hR : ∀ c, flt R c = T c) (c : Int) (x : Int × Int) : rdropE R (c, x) = dropE (T c) x ∧ ∀ c', flt (R.erase (c, x)) c' = dropT T c x c' := by
  refine ⟨?_, fun c' => ?_⟩
  · unfold rdropE dropE
    rw [← hR]
    simp only [flt_mem]
  · rw [flt_erase]
    unfold dropT setT
    by_cases hm : x ∈ T c
    · rw [if_pos hm]
      by_cases hc : c' = c
      · simp only [hc, if_true]; rw [hR, List.erase_eq_eraseIdx_of_idxOf rfl]
      · simp only [hc, if_false]; exact hR c'
    · rw [if_neg hm]
      by_cases hc : c' = c
      · subst hc; rw [if_pos rfl, hR, List.erase_of_not_mem hm]
      · rw [if_neg hc, hR]
theorem ref_is {l : List (Int × Int)} (hw : WFL l) (m : Int) : isF l m = (!inB m l && (decide (0 ≤ m) && decide (m < 1048576))) := by
  by_cases h1 : 0 ≤ m
  · by_cases h2 : m < 1048576
    · rw [is_in hw m h1 h2]; simp [h1, h2]
    · unfold isF; simp [h2]
  · unfold isF; simp [h1]
theorem rtake_len (R : List Rw) (c a b : Int) : (rtakeR R c a b).length ≤ R.length + 1 := by
  unfold rtakeR
  split
  · unfold insR
    have : posR R c a ≤ R.length := by unfold posR; exact List.Sublist.length_le (List.takeWhile_sublist _)
    simp; omega
  · omega
theorem rforget_len (R : List Rw) (m : Int) : (rforget R m).length ≤ R.length := List.length_filter_le _ _

end Go.Proofs.YtgdokpfepfmbmaaDoor

namespace Go.Proofs.YtgdokpfepfmbmaaDoor
set_option linter.unusedVariables false
set_option linter.unusedSimpArgs false

/-! ### Free windows -/
theorem fpre_end : ∀ (l : List (Int × Int)) (s : List (Int × Int) × Int) (L : List (Int × Int)), (∀ x ∈ l, x ∈ L) → (∀ w ∈ s.1, ∃ x ∈ L, w.2 = x.1) → ∀ w ∈ (l.foldl fstep s).1, ∃ x ∈ L, w.2 = x.1 := by
  intro l
  induction l with
  | nil => intro s L _ h; exact h
  | cons y l ih =>
    intro s L hl h
    refine ih _ L (fun x hx => hl x (List.mem_cons_of_mem _ hx)) ?_
    intro w hw
    unfold fstep at hw
    simp only at hw
    split at hw
    · rcases List.mem_append.1 hw with h1 | h1
      · exact h w h1
      · rw [List.mem_singleton] at h1; subst h1
        exact ⟨y, hl y List.mem_cons_self, rfl⟩
    · exact h w hw
theorem free_end {l : List (Int × Int)} {w : Int × Int} (h : w ∈ freeL l) : w.2 = 1048576 ∨ ∃ x ∈ l, w.2 = x.1 := by
  unfold freeL at h
  have key := fpre_end l ([], 0) l (fun _ h => h) (by simp)
  split at h
  · rcases List.mem_append.1 h with h1 | h1
    · exact .inr (key w h1)
    · rw [List.mem_singleton] at h1; subst h1; exact .inl rfl
  · exact .inr (key w h)
theorem inB_iff {m : Int} {l : List (Int × Int)} : inB m l = true ↔ ∃ x ∈ l, x.1 ≤ m ∧ m < x.2 := by
  unfold inB
  rw [List.any_eq_true]
  constructor
  · rintro ⟨x, hx, h⟩; exact ⟨x, hx, by simpa using h⟩
  · rintro ⟨x, hx, h⟩; exact ⟨x, hx, by simpa using h⟩
theorem isF_cov {l : List (Int × Int)} (hw : WFL l) (t : Int) : isF l t = true ↔ ∃ w ∈ freeL l, w.1 ≤ t ∧ t < w.2 := by
  rw [← inB_iff]
  by_cases h : 0 ≤ t ∧ t < 1048576
  · rw [is_in hw t h.1 h.2, free_in hw t h.1 h.2]
  · have h1 : isF l t = false := by rw [ref_is hw]; simp; omega
    rw [h1]
    constructor
    · intro e; cases e
    · intro e
      obtain ⟨x, hx, h2, h3⟩ := inB_iff.1 e
      have := (free_ord hw).1 x hx
      omega
theorem isF_end {l : List (Int × Int)} (hw : WFL l) {w : Int × Int} (h : w ∈ freeL l) : isF l w.2 = false := by
  rw [ref_is hw]
  rcases free_end h with e | ⟨x, hx, e⟩
  · rw [e]; simp
  · have := hw.rt x hx
    rw [show inB w.2 l = true from inB_iff.2 ⟨x, hx, by omega, by omega⟩]; rfl

/-! ### Stays -/
structure Sty where
  c : Nat
  a : Int
  b : Int
deriving DecidableEq
section
variable (T : Int → List (Int × Int)) (st : Nat → List Nat) (fr : Nat) (s0 : Int)
/-- Can the robot be in c, n moments behind the start? -/
def Rch : Nat → Nat → Prop
  | 0, c => c = fr
  | n + 1, c => isF (T c) (s0 + ((n + 1 : Nat) : Int)) = true ∧ (Rch n c ∨ ∃ u, Rch n u ∧ c ∈ st u)
def fstT : List (Int × Int) → Int → Int := fun l t => l.foldl (fun t w => if w.1 ≤ t ∧ t < w.2 then w.2 else t) t
/-- Up to when the robot can stay where it is first. -/
def to0 : Int := fstT (freeL (T fr)) (s0 + 1)
def fstS : Sty := ⟨fr, s0, to0 T fr s0⟩
def byW (x : Sty) (L : Int) (c : Nat) (w : Int × Int) : Option Sty := if max (x.a + 1) w.1 ≤ x.b ∧ max (x.a + 1) w.1 < w.2 ∧ max (x.a + 1) w.1 ≤ L then some ⟨c, max (x.a + 1) w.1, w.2⟩ else none
def byC (x : Sty) (L : Int) (c : Nat) : List Sty := (freeL (T c)).filterMap (byW x L c)
/-- The stays that can be reached out of one. -/
def byL (x : Sty) (L : Int) : List Sty := (st x.c).flatMap (byC T x L)
def kn (S : List Sty) (x : Sty) : Prop := ∃ y ∈ S, y.c = x.c ∧ y.b = x.b ∧ y.a ≤ x.a
end
theorem kn.mono {S S' : List Sty} {x : Sty} (h : kn S x) (hs : ∀ y ∈ S, y ∈ S') : kn S' x := let ⟨y, h1, h2⟩ := h; ⟨y, hs y h1, h2⟩
theorem kn.via {S' : List Sty} {x z : Sty} (hz : z.c = x.c ∧ z.b = x.b ∧ z.a ≤ x.a) (hk : kn S' z) : kn S' x := by
  obtain ⟨y, h1, h2, h3, h4⟩ := hk
  exact ⟨y, h1, by omega, by omega, by omega⟩
theorem kn.self {S : List Sty} {x : Sty} (h : x ∈ S) : kn S x := ⟨x, h, rfl, rfl, Int.le_refl _⟩
/-- The first stay's end, window by window. -/
theorem fstT_inv {l : List (Int × Int)} (hw : WFL l) (t0 : Int) : ∀ k, k ≤ (freeL l).length → t0 ≤ fstT ((freeL l).take k) t0 ∧ (∀ t, t0 ≤ t → t < fstT ((freeL l).take k) t0 → isF l t = true) ∧ (∀ w ∈ (freeL l).take k, ¬ (w.1 ≤ fstT ((freeL l).take k) t0 ∧ fstT ((freeL l).take k) t0 < w.2)) ∧ (fstT ((freeL l).take k) t0 = t0 ∨ ∃ w ∈ freeL l, w.2 = fstT ((freeL l).take k) t0) := by
  intro k
  induction k with
  | zero => intro _; exact ⟨by simp [fstT], fun t h1 h2 => by simp [fstT] at h2; omega, by simp, .inl (by simp [fstT])⟩
  | succ k ih =>
    intro hk
    obtain ⟨i1, i2, i3, i4⟩ := ih (by omega)
    obtain ⟨w, hw1⟩ : ∃ w, (freeL l)[k]? = some w := ⟨_, List.getElem?_eq_getElem (by omega)⟩
    have hmem := List.mem_of_getElem? hw1
    have e : fstT ((freeL l).take (k + 1)) t0 = if w.1 ≤ fstT ((freeL l).take k) t0 ∧ fstT ((freeL l).take k) t0 < w.2 then w.2 else fstT ((freeL l).take k) t0 := by
      unfold fstT
      rw [List.take_add_one, hw1, List.foldl_append]
      rfl
    rw [e]
    split
    · rename_i hc
      refine ⟨by omega, fun t h1 h2 => ?_, fun y hy => ?_, .inr ⟨w, hmem, rfl⟩⟩
      · rcases Int.lt_or_le t (fstT ((freeL l).take k) t0) with h3 | h3
        · exact i2 t h1 h3
        · exact (isF_cov hw t).2 ⟨w, hmem, by omega, h2⟩
      · rw [List.take_add_one, hw1] at hy
        rcases List.mem_append.1 hy with h1 | h1
        · obtain ⟨j, hj⟩ := List.mem_iff_getElem?.1 h1
          rw [List.getElem?_take] at hj
          split at hj
          · rename_i hjk
            have hl := (List.getElem?_eq_some_iff.1 hj).1
            have h2 := List.pairwise_iff_getElem.1 (free_ord hw).2 j k hl (by omega) hjk
            rw [(List.getElem?_eq_some_iff.1 hj).2, (List.getElem?_eq_some_iff.1 hw1).2] at h2
            have := (free_ord hw).1 w hmem
            omega
          · simp at hj
        · simp at h1; subst h1; omega
    · rename_i hc
      refine ⟨i1, i2, fun y hy => ?_, i4⟩
      rw [List.take_add_one, hw1] at hy
      rcases List.mem_append.1 hy with h1 | h1
      · exact i3 y h1
      · simp at h1; subst h1; exact hc
theorem to0_spec {T : Int → List (Int × Int)} {fr : Nat} {s0 : Int} (hT : WFT T) : s0 + 1 ≤ to0 T fr s0 ∧ (∀ t, s0 + 1 ≤ t → t < to0 T fr s0 → isF (T fr) t = true) ∧ isF (T fr) (to0 T fr s0) = false ∧ (to0 T fr s0 = s0 + 1 ∨ ∃ w ∈ freeL (T fr), w.2 = to0 T fr s0) := by
  obtain ⟨h1, h2, h3, h4⟩ := fstT_inv (hT fr) (s0 + 1) (freeL (T fr)).length (Nat.le_refl _)
  rw [List.take_length] at h1 h2 h3 h4
  refine ⟨h1, h2, ?_, h4⟩
  cases hb : isF (T fr) (to0 T fr s0) with
  | false => rfl
  | true =>
    obtain ⟨w, hw, h5⟩ := (isF_cov (hT fr) _).1 hb
    exact absurd h5 (h3 w hw)

/-! ### What a search finds -/
section
variable {T : Int → List (Int × Int)} {st : Nat → List Nat} {fr n : Nat} {s0 L : Int}
/-- A stay that is right. -/
structure Gd (T : Int → List (Int × Int)) (st : Nat → List Nat) (fr n : Nat) (s0 L : Int) (x : Sty) : Prop where
  cn : x.c < n
  a0 : s0 ≤ x.a
  aL : x.a ≤ L
  ab : x.a < x.b
  b63 : x.b ≤ 1048576
  rch : ∀ k : Nat, x.a ≤ s0 + k → s0 + k < x.b → Rch T st fr s0 k x.c
  wn : x = fstS T fr s0 ∨ ∃ w ∈ freeL (T x.c), w.2 = x.b
theorem Gd.end_ {x : Sty} (hT : WFT T) (h : Gd T st fr n s0 L x) : isF (T x.c) x.b = false := by
  rcases h.wn with e | ⟨w, hw, e⟩
  · rw [e]; exact (to0_spec hT).2.2.1
  · rw [← e]; exact isF_end (hT _) hw
theorem gd_first (hT : WFT T) (hn : fr < n) (h0 : 0 ≤ s0) (hm : s0 < 1048576) (hL : s0 ≤ L) : Gd T st fr n s0 L (fstS T fr s0) := by
  obtain ⟨h1, h2, h3, h4⟩ := to0_spec (fr := fr) (s0 := s0) hT
  refine ⟨hn, Int.le_refl _, hL, by show s0 < to0 T fr s0; omega, ?_, fun k hk hk2 => ?_, .inl rfl⟩
  · show to0 T fr s0 ≤ 1048576
    rcases h4 with e | ⟨w, hw, e⟩
    · omega
    · have := (free_ord (hT fr)).1 w hw; omega
  · have hk2 : s0 + (k : Int) < to0 T fr s0 := hk2
    show Rch T st fr s0 k fr
    induction k with
    | zero => rfl
    | succ k ih => exact ⟨h2 _ (by omega) hk2, .inl (ih (by show s0 ≤ _; omega) (by show s0 + (k : Int) < to0 T fr s0; omega) (by omega))⟩
theorem byL_mem {x y : Sty} (h : y ∈ byL T st x L) : y.c ∈ st x.c ∧ ∃ w ∈ freeL (T y.c), y.a = max (x.a + 1) w.1 ∧ y.b = w.2 ∧ y.a ≤ x.b ∧ y.a < y.b ∧ y.a ≤ L := by
  unfold byL byC at h
  rw [List.mem_flatMap] at h
  obtain ⟨c, hc, h⟩ := h
  rw [List.mem_filterMap] at h
  obtain ⟨w, hw, h⟩ := h
  unfold byW at h
  split at h
  · rename_i hh
    simp only [Option.some.injEq] at h
    subst h
    exact ⟨hc, w, hw, rfl, rfl, hh.1, hh.2.1, hh.2.2⟩
  · simp at h
theorem byL_of {x : Sty} {c : Nat} {w : Int × Int} (hc : c ∈ st x.c) (hw : w ∈ freeL (T c)) (h1 : max (x.a + 1) w.1 ≤ x.b) (h2 : max (x.a + 1) w.1 < w.2) (h3 : max (x.a + 1) w.1 ≤ L) : (⟨c, max (x.a + 1) w.1, w.2⟩ : Sty) ∈ byL T st x L := by
  unfold byL byC
  rw [List.mem_flatMap]
  refine ⟨c, hc, ?_⟩
  rw [List.mem_filterMap]
  exact ⟨w, hw, by unfold byW; rw [if_pos ⟨h1, h2, h3⟩]⟩
theorem Gd.beyond {x y : Sty} (hT : WFT T) (hs : ∀ u c, u < n → c ∈ st u → c < n) (h : Gd T st fr n s0 L x) (hy : y ∈ byL T st x L) : Gd T st fr n s0 L y := by
  obtain ⟨h1, w, hw, e1, e2, h2, h3, h4⟩ := byL_mem hy
  have ha0 := h.a0
  have hwr := (free_ord (hT y.c)).1 w hw
  refine ⟨hs _ _ h.cn h1, by omega, h4, h3, by omega, fun k hk hk2 => ?_, .inr ⟨w, hw, e2.symm⟩⟩
  induction k with
  | zero => omega
  | succ k ih =>
    have hf : isF (T y.c) (s0 + ((k + 1 : Nat) : Int)) = true := (isF_cov (hT _) _).2 ⟨w, hw, by omega, by omega⟩
    refine ⟨hf, ?_⟩
    by_cases hlt : y.a ≤ s0 + k
    · exact .inl (ih hlt (by omega))
    · exact .inr ⟨x.c, h.rch k (by omega) (by omega), h1⟩
/-- Closed under what can be reached: then all is found. -/
theorem cov_of {S : List Sty} (hT : WFT T) (hz : kn S (fstS T fr s0)) (hg : ∀ x ∈ S, Gd T st fr n s0 L x) (hc : ∀ x ∈ S, ∀ y ∈ byL T st x L, kn S y) : ∀ (k c : Nat), s0 + (k : Int) ≤ L → Rch T st fr s0 k c → ∃ x ∈ S, x.c = c ∧ x.a ≤ s0 + k ∧ s0 + k < x.b := by
  intro k
  induction k with
  | zero =>
    intro c hL h
    obtain ⟨y, hy, e1, e2, e3⟩ := hz
    have e1 : y.c = fr := e1
    have e2 : y.b = to0 T fr s0 := e2
    have e3 : y.a ≤ s0 := e3
    have h : c = fr := h
    have := (to0_spec (fr := fr) (s0 := s0) hT).1
    exact ⟨y, hy, by omega, by omega, by omega⟩
  | succ k ih =>
    intro c hL h
    obtain ⟨hf, h | ⟨u, hu, hcu⟩⟩ := h
    · obtain ⟨x, hx, e, h1, h2⟩ := ih c (by omega) h
      refine ⟨x, hx, e, by omega, ?_⟩
      by_cases hlt : s0 + ((k + 1 : Nat) : Int) < x.b
      · exact hlt
      · exfalso
        have hb : s0 + ((k + 1 : Nat) : Int) = x.b := by omega
        have := (hg x hx).end_ hT
        rw [e, ← hb, hf] at this
        cases this
    · obtain ⟨x, hx, e, h1, h2⟩ := ih u (by omega) hu
      obtain ⟨w, hw, h3, h4⟩ := (isF_cov (hT c) _).1 hf
      obtain ⟨z, hz, e1, e2, e3⟩ := hc x hx _ (byL_of (L := L) (by rw [e]; exact hcu) hw (by omega) (by omega) (by omega))
      simp only at e1 e2 e3
      exact ⟨z, hz, e1, by omega, by omega⟩
/-- What the search has found, so far: all, the ones that were looked at (S), the ones that wait (by number). -/
structure SpI (T : Int → List (Int × Int)) (st : Nat → List Nat) (fr n : Nat) (s0 L : Int) (all S : List Sty) (M : List Nat) : Prop where
  z : all[0]? = some (fstS T fr s0)
  gd : ∀ x ∈ all, Gd T st fr n s0 L x
  sub : ∀ x ∈ S, x ∈ all
  wt : ∀ i ∈ M, i < all.length
  cov : ∀ (i : Nat) x, all[i]? = some x → i ∈ M ∨ kn S x
  new : S.Pairwise (fun x y => ¬ (x.c = y.c ∧ x.b = y.b ∧ x.a ≤ y.a))
/-- What was looked at is closed, but for the ones in R. -/
def Cl (T : Int → List (Int × Int)) (st : Nat → List Nat) (L : Int) (all S : List Sty) : Prop := ∀ x ∈ S, ∀ y ∈ byL T st x L, kn all y
theorem SpI.start (hg : Gd T st fr n s0 L (fstS T fr s0)) : SpI T st fr n s0 L [fstS T fr s0] [] [0] ∧ Cl T st L [fstS T fr s0] [] :=
  ⟨⟨rfl, by simpa using hg, by simp, by simp, fun i x h => by
    cases i with
    | zero => exact .inl (by simp)
    | succ i => simp at h, by simp⟩, by intro x hx; simp at hx⟩
variable {all S : List Sty} {M M' : List Nat} {i : Nat} {x : Sty}
theorem SpI.skip (h : SpI T st fr n s0 L all S M) (hM : M.Perm (i :: M')) (hx : all[i]? = some x) (hk : kn S x) : SpI T st fr n s0 L all S M' :=
  ⟨h.z, h.gd, h.sub, fun j hj => h.wt j (hM.symm.subset (List.mem_cons_of_mem _ hj)), fun j y hj => by
    rcases h.cov j y hj with h1 | h1
    · rcases List.mem_cons.1 (hM.subset h1) with rfl | h2
      · rw [hx] at hj; cases hj; exact .inr hk
      · exact .inl h2
    · exact .inr h1, h.new⟩
theorem SpI.take (h : SpI T st fr n s0 L all S M) (hM : M.Perm (i :: M')) (hx : all[i]? = some x) (hk : ¬ kn S x) : SpI T st fr n s0 L all (S ++ [x]) M' :=
  ⟨h.z, h.gd, fun y hy => by
    rcases List.mem_append.1 hy with h1 | h1
    · exact h.sub y h1
    · simp at h1; subst h1; exact List.mem_of_getElem? hx, fun j hj => h.wt j (hM.symm.subset (List.mem_cons_of_mem _ hj)), fun j y hj => by
    rcases h.cov j y hj with h1 | h1
    · rcases List.mem_cons.1 (hM.subset h1) with rfl | h2
      · rw [hx] at hj; cases hj; exact .inr (.self (by simp))
      · exact .inl h2
    · exact .inr (h1.mono fun z hz => List.mem_append_left _ hz), by
    rw [List.pairwise_append]
    refine ⟨h.new, by simp, fun y hy z hz => ?_⟩
    simp at hz; subst hz
    exact fun e => hk ⟨y, hy, e.1, e.2.1, e.2.2⟩⟩
theorem SpI.push (h : SpI T st fr n s0 L all S M) {y : Sty} (hy : Gd T st fr n s0 L y) : SpI T st fr n s0 L (all ++ [y]) S (M ++ [all.length]) :=
  ⟨by
    have hl := (List.getElem?_eq_some_iff.1 h.z).1
    rw [List.getElem?_append_left hl]; exact h.z, fun z hz => by
    rcases List.mem_append.1 hz with h1 | h1
    · exact h.gd z h1
    · simp at h1; subst h1; exact hy, fun z hz => List.mem_append_left _ (h.sub z hz), fun j hj => by
    rw [List.length_append, List.length_singleton]
    rcases List.mem_append.1 hj with h1 | h1
    · have := h.wt j h1; omega
    · simp at h1; omega, fun j z hj => by
    rcases Nat.lt_or_ge j all.length with h1 | h1
    · rw [List.getElem?_append_left h1] at hj
      rcases h.cov j z hj with h2 | h2
      · exact .inl (List.mem_append_left _ h2)
      · exact .inr h2
    · have hl := (List.getElem?_eq_some_iff.1 hj).1
      rw [List.length_append, List.length_singleton] at hl
      exact .inl (List.mem_append_right _ (by simp; omega)), h.new⟩
theorem Cl.mono (h : Cl T st L all S) {all' : List Sty} (hs : ∀ y ∈ all, y ∈ all') : Cl T st L all' S := fun x hx y hy => (h x hx y hy).mono hs
theorem SpI.done (h : SpI T st fr n s0 L all S []) (hc : Cl T st L all S) (hT : WFT T) (k c : Nat) (hL : s0 + (k : Int) ≤ L) : Rch T st fr s0 k c ↔ ∃ x ∈ S, x.c = c ∧ x.a ≤ s0 + k ∧ s0 + k < x.b := by
  have hall : ∀ x ∈ all, kn S x := fun x hx => by
    obtain ⟨i, hi⟩ := List.mem_iff_getElem?.1 hx
    rcases h.cov i x hi with h1 | h1
    · simp at h1
    · exact h1
  constructor
  · exact cov_of hT (hall _ (List.mem_of_getElem? h.z)) (fun x hx => h.gd x (h.sub x hx)) (fun x hx y hy => by
      obtain ⟨z, hz, e⟩ := hc x hx y hy
      exact kn.via e (hall z hz)) k c hL
  · rintro ⟨x, hx, rfl, h1, h2⟩
    exact (h.gd x (h.sub x hx)).rch k h1 h2
end
end Go.Proofs.YtgdokpfepfmbmaaDoor
