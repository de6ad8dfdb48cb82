/- Take. -/
import Derived.Test.YtihnbgokkhbjnaaWinM
import Derived.Deep.RegionHeld3
namespace Go.Proofs.Ytihnbgokkhbjnaa
set_option linter.unusedVariables false
set_option linter.unusedSimpArgs false
open Go.RowKit

theorem right_b (a b : Int) (w : World) (v : Bool) (hv : v = decide (0 ≤ a ∧ a < b ∧ b ≤ 1048576)) :
    Calls Try.prog 25 #[.agg #[.int .i64 a, .int .i64 b]] w fun e w' => e = .returned (.bool v) ∧ w' = w.alloc (.cells #[.int .i64 a, .int .i64 b] 23) := by
  subst hv; exact right_any a b w

def takeE (l : List (Int × Int)) (a b : Int) : Int :=
  if ¬(0 ≤ a ∧ a < b ∧ b ≤ 1048576) then 1 else if (match l[place l a]? with | some x => decide (x.1 < b) | none => false) then 3 else if 4096 ≤ l.length then 4 else 0
def takeT (T : Int → List (Int × Int)) (c a b : Int) : Int → List (Int × Int) := if takeE (T c) a b = 0 then setT T c (insL (T c) (place (T c) a) (a, b)) else T

/-- The table is another one behind the call. -/
def TabTo (bt : Nat) (T' : Int → List (Int × Int)) (F : Nat → Prop) (w w' : World) : Prop := ∃ F', RepT w' bt T' F' ∧ Kp F w w' ∧ ∀ k, F' k → F k ∨ w.heap.size ≤ k

theorem TabTo.same {w w' : World} {bt : Nat} {T : Int → List (Int × Int)} {F : Nat → Prop} (h : RepT w bt T F) (hk : Kp No w w') : TabTo bt T F w w' :=
  ⟨F, h.kpNo hk, hk.mono fun _ _ h => h.elim, fun _ h => .inl h⟩

theorem Kp.ofDrew {S : Nat → Prop} {w w' : World} (h : Kp S w.drew w') : Kp S w w' := ⟨h.os, h.tape, h.output, h.size, h.block⟩
theorem OwnB.one (w : World) (a b : Int) : OwnB WK 23 (w.alloc (.cells #[.int .i64 a, .int .i64 b] 23)) w.heap.size 1 [(a, b)] := ⟨_, blk_new w _, by simp, rfl, rfl⟩

/-- What is known behind the call of Insert, in Take. -/
theorem take_mid {w w2 wd w4 : World} {bt bm : Nat} {T : Int → List (Int × Int)} {F : Nat → Prop} {c a b : Int} {v v' : Value} {l' : List (Int × Int)}
    (hk : Kp No w w2) (hkd : Kp No w2 wd) (hs : ∀ w1 v' l', Kp (fun k => v.ownBlock = some k) w2 w1 → Own WK 23 w1 v' l' → (∀ g, v'.ownBlock = some g → v.ownBlock = some g ∨ w2.heap.size ≤ g) →
        ∃ w5 F', (Instr.mapUpdate 51 (.map (some bm)) (.int .i64 c) v').run Try.prog w1 = .ok () w5 ∧ RepT w5 bt (setT T c l') F' ∧ Kp F w2 w5 ∧ ∀ k, F' k → F k ∨ w2.heap.size ≤ k)
    (hv : ∀ g, v.ownBlock = some g → F g) (hF : ∀ k, F k → k < w.heap.size) (hbn : ¬ F bt) (hbt : bt < w.heap.size)
    (c1 : w2.cell? ⟨bt, 0, none⟩ = some (.map (some bm))) (hP : w2.heap[w.heap.size]? = some (.cells #[.int .i64 a, .int .i64 b] 23 (0, 0)))
    (k1 : Own WK 23 w4 v' l') (k2 : Kp (fun k => v.ownBlock = some k) (wd.alloc (.cells #[.int .i64 a, .int .i64 b] 23)) w4) (k3 : ∀ g, v'.ownBlock = some g → v.ownBlock = some g ∨ (wd.alloc (.cells #[.int .i64 a, .int .i64 b] 23)).heap.size ≤ g) :
    (w4.cell? ⟨bt, 0, none⟩ = some (.map (some bm)) ∧ w4.cell? ⟨w.heap.size, 0, none⟩ = some (.int .i64 a) ∧ w4.cell? ⟨w.heap.size, 1, none⟩ = some (.int .i64 b)) ∧
    ∃ w5, (Instr.mapUpdate 51 (.map (some bm)) (.int .i64 c) v').run Try.prog w4 = .ok () w5 ∧ TabTo bt (setT T c l') F w w5 ∧
      (w5.cell? ⟨bt, 0, none⟩ = some (.map (some bm)) ∧ w5.cell? ⟨w.heap.size, 0, none⟩ = some (.int .i64 a) ∧ w5.cell? ⟨w.heap.size, 1, none⟩ = some (.int .i64 b)) := by
  have hkk : Kp (fun k => v.ownBlock = some k) w2 w4 := ((hkd.mono (fun _ _ h => h.elim)).alloc _).trans k2
  have hsz := hk.size
  have hsz2 := hkd.size
  obtain ⟨w5, F', r1, r2, r3, r4⟩ := hs w4 v' l' hkk k1 (fun g hg => (k3 g hg).imp id (fun h => by simp at h; omega))
  refine ⟨⟨hkk.cellS c1 fun h => hbn (hv bt h), hkk.cellS ((blk_cell hP 0).trans rfl) fun h => ?_, hkk.cellS ((blk_cell hP 1).trans rfl) fun h => ?_⟩, w5, r1, ⟨F', r2, (hk.mono (fun _ _ h => h.elim)).trans r3, fun k h => (r4 k h).imp id (fun h => by omega)⟩, r3.cellS c1 hbn, r3.cellS ((blk_cell hP 0).trans rfl) fun h => ?_, r3.cellS ((blk_cell hP 1).trans rfl) fun h => ?_⟩
  · have := hF _ (hv _ h); simp at this
  · have := hF _ (hv _ h); simp at this
  · have := hF _ h; simp at this
  · have := hF _ h; simp at this

set_option maxRecDepth 100000 in
theorem take_any {w : World} {bt : Nat} {T : Int → List (Int × Int)} {F : Nat → Prop} (h : RepT w bt T F) (hT : WFT T) (c a b : Int) :
    Calls Try.prog 11 #[.pointer (some ⟨bt, 0, none⟩), .int .i64 c, .agg #[.int .i64 a, .int .i64 b]] w fun e w' => e = .returned (.int .i64 (takeE (T c) a b)) ∧ TabTo bt (takeT T c a b) F w w' := by
  have HT := Lib.hid hT
  have HR := Lib.hid h
  clear hT
  by_cases hr : ¬ (0 ≤ a ∧ a < b ∧ b ≤ 1048576)
  · have he : takeE (T c) a b = 1 := by simp only [takeE, if_pos hr]
    have ht : takeT T c a b = T := by simp [takeT, he]
    rw [he, ht]
    have hr' := Lib.hid hr
    clear hr he ht h
    go_enter Try.func11, Try.ntmps11
    go_wp2_with (go_at_call 25; refine (right_b a b _ false (by simp [hr'.out])).mono ?_; rintro e w' ⟨rfl, rfl⟩)
    go_ret
    exact ⟨rfl, TabTo.same HR.out (((Kp.refl _ _).alloc _).alloc _)⟩
  have hr := Decidable.not_not.1 hr
  -- the world behind the two boxes
  have hk2 : Kp No w ((w.alloc (.cells #[.int .i64 a, .int .i64 b] 23)).alloc (.cells #[.int .i64 a, .int .i64 b] 23)) := ((Kp.refl _ _).alloc _).alloc _
  have hP : ((w.alloc (.cells #[.int .i64 a, .int .i64 b] 23)).alloc (.cells #[.int .i64 a, .int .i64 b] 23)).heap[w.heap.size]? = some (.cells #[.int .i64 a, .int .i64 b] 23 (0, 0)) := blk_alloc (blk_new _ _) _
  have hrt : Hid (true = decide (0 ≤ a ∧ a < b ∧ b ≤ 1048576)) := (by simp [hr] : true = decide _)
  have hE : takeE (T c) a b = (if (match (T c)[place (T c) a]? with | some x => decide (x.1 < b) | none => false) then 3 else if 4096 ≤ (T c).length then 4 else 0) := by
    simp only [takeE, if_neg (not_not_intro hr)]
  have h2 := h.kpNo hk2
  obtain ⟨bm, v, q1, q2, q3, q4, q5⟩ := h2.at c
  have q2 := q2 0
  change Sem.run _ _ ((w.alloc _).alloc _) = .ok v ((w.alloc _).alloc _) at q2
  have HR2 := Lib.hid h2
  have H := Lib.hid q3
  have HV := Lib.hid q4
  have HS := Lib.hid q5
  have HK := Lib.hid hk2
  have HP := Lib.hid hP
  obtain ⟨A, cap, rfl⟩ := q3.rd.shape
  have hle := place_le (T c) a
  have hbt := h.lt.1
  have HFL := Lib.hid h.lt.2
  have HBN := Lib.hid h2.bt_not
  clear hr h h2 q3 q4 q5 hk2 hP
  by_cases hlt : place (T c) a < (T c).length
  · obtain ⟨x, hx⟩ : ∃ x, (T c)[place (T c) a]? = some x := ⟨_, List.getElem?_eq_getElem hlt⟩
    rcases H.out with ⟨hv, he⟩ | ⟨g, cap', cur, hv, _⟩
    · rw [he] at hlt; simp at hlt
    simp only [Value.slice.injEq] at hv
    obtain ⟨rfl, _, rfl⟩ := hv
    have hltI : (place (T c) a : Int) < ((T c).length : Int) := by simpa using hlt
    by_cases hxb : x.1 < b
    · have he : takeE (T c) a b = 3 := by rw [hE, hx]; simp [hxb]
      have ht : takeT T c a b = T := by simp [takeT, he]
      rw [he, ht]
      have HX := Lib.hid hx
      have hxb' : decide (x.1 < b) = true := by simp [hxb]
      clear he ht hx hE
      go_enter Try.func11, Try.ntmps11
      go_wp2_with (first | (go_at_call 25; refine (right_b a b _ true hrt.out).mono ?_; rintro e w' ⟨rfl, rfl⟩) | (go_at_call 26; refine (place_any HR2.out HT.out c a).mono ?_; rintro e w3 ⟨rfl, hk⟩; obtain ⟨hc1, hc2⟩ := (H.out.rd.kpNo hk).winAt0 HX.out; have hc3 := (blk_cell (hk.blk HP.out (no_no _)) 1).trans rfl))
      go_quiet (fail)
      go_wp2
      go_ret
      exact ⟨rfl, TabTo.same HR.out ((HK.out.trans hk).drewN _)⟩
    · have hE : takeE (T c) a b = if 4096 ≤ (T c).length then 4 else 0 := by rw [hE, hx]; simp [hxb]
      have HX := Lib.hid hx
      have hxb' : decide (x.1 < b) = false := by simp [hxb]
      clear hx hxb
      by_cases hlen : 4096 ≤ (T c).length
      · have he : takeE (T c) a b = 4 := by rw [hE]; simp [hlen]
        have ht : takeT T c a b = T := by simp [takeT, he]
        rw [he, ht]
        clear he ht hE
        go_enter Try.func11, Try.ntmps11
        go_wp2_with (first | (go_at_call 25; refine (right_b a b _ true hrt.out).mono ?_; rintro e w' ⟨rfl, rfl⟩) | (go_at_call 26; refine (place_any HR2.out HT.out c a).mono ?_; rintro e w3 ⟨rfl, hk⟩; obtain ⟨hc1, hc2⟩ := (H.out.rd.kpNo hk).winAt0 HX.out; have hc3 := (blk_cell (hk.blk HP.out (no_no _)) 1).trans rfl))
        go_quiet (fail)
        go_wp2
        go_ret
        exact ⟨rfl, TabTo.same HR.out ((HK.out.trans hk).drewN _)⟩
      · have he : takeE (T c) a b = 0 := by rw [hE]; simp [hlen]
        have ht : takeT T c a b = setT T c (insL (T c) (place (T c) a) (a, b)) := by simp [takeT, he]
        rw [he, ht]
        clear he ht hE
        go_enter Try.func11, Try.ntmps11
        go_wp2_with (first | (go_at_call 25; refine (right_b a b _ true hrt.out).mono ?_; rintro e w' ⟨rfl, rfl⟩) | (go_at_call 26; refine (place_any HR2.out HT.out c a).mono ?_; rintro e w3 ⟨rfl, hk⟩; obtain ⟨hc1, hc2⟩ := (H.out.rd.kpNo hk).winAt0 HX.out; have hc3 := (blk_cell (hk.blk HP.out (no_no _)) 1).trans rfl))
        go_quiet (fail)
        go_wp2
        generalize hwd : w3.drewN _ = wd
        have hkd : Kp No ((w.alloc (.cells #[.int .i64 a, .int .i64 b] 23)).alloc (.cells #[.int .i64 a, .int .i64 b] 23)) wd := by rw [← hwd]; exact hk.drewN _
        have c1 := hkd.cellS q1 (no_no _)
        have HQ1 := Lib.hid q1
        have c2 : wd.cell? ⟨w.heap.size, 0, none⟩ = some (.int .i64 a) := hkd.cellS ((blk_cell HP.out 0).trans rfl) (no_no _)
        have c3 : wd.cell? ⟨w.heap.size, 1, none⟩ = some (.int .i64 b) := hkd.cellS ((blk_cell HP.out 1).trans rfl) (no_no _)
        have hz1 : bt < wd.heap.size := by have := hkd.size; simp at this; omega
        have hz2 : w.heap.size < wd.heap.size := by have := hkd.size; simp at this; omega
        have HD := Lib.hid hkd
        have hvne : Hid ((Value.slice (some ⟨g, 0, none⟩) (T c).length cap).ownBlock ≠ some wd.heap.size) := fun e => by have := HFL.out _ (HV.out _ e); omega
        have HOW := Lib.hid (H.out.kpNo hkd)
        clear hkd hwd hk hc1 hc2 hc3 q1
        go_region_held3 (fun w' => w'.cell? ⟨bt, 0, none⟩ = some (.map (some bm)) ∧ w'.cell? ⟨w.heap.size, 0, none⟩ = some (.int .i64 a) ∧ w'.cell? ⟨w.heap.size, 1, none⟩ = some (.int .i64 b)) (first | exact ⟨by assumption, by assumption, by assumption⟩ | simp [go_sem, World.cell?_alloc_past, *])
          (first
            | (go_at_call 27; refine (insert_any _ (T c) (a, b) _ _ (place (T c) a) hle (by exact HOW.out.alloc _) (Nat.le_trans (HT.out c).len (by decide)) (by exact OwnB.one wd a b) hvne.out _ rfl).mono ?_; rintro e w4 ⟨v', rfl, k1, k2, k3⟩; obtain ⟨⟨d1, d2, d3⟩, w5, hu, htab, e1, e2, e3⟩ := take_mid HK.out HD.out HS.out HV.out HFL.out HBN.out hbt HQ1.out HP.out k1 k2.ofDrew k3; have HTB := Lib.hid htab; clear k1 k2 k3 htab))
        go_wp2
        go_ret
        exact ⟨rfl, HTB.out⟩
  · have hpl : place (T c) a = (T c).length := by omega
    have hnone : (T c)[place (T c) a]? = none := by rw [hpl]; simp
    have hE : takeE (T c) a b = if 4096 ≤ (T c).length then 4 else 0 := by rw [hE, hnone]; simp
    have hltI : decide ((place (T c) a : Int) < ((T c).length : Int)) = false := by simp; omega
    clear hnone hpl
    by_cases hlen : 4096 ≤ (T c).length
    · have he : takeE (T c) a b = 4 := by rw [hE]; simp [hlen]
      have ht : takeT T c a b = T := by simp [takeT, he]
      rw [he, ht]
      clear he ht hE
      go_enter Try.func11, Try.ntmps11
      go_wp2_with (first | (go_at_call 25; refine (right_b a b _ true hrt.out).mono ?_; rintro e w' ⟨rfl, rfl⟩) | (go_at_call 26; refine (place_any HR2.out HT.out c a).mono ?_; rintro e w3 ⟨rfl, hk⟩; have hc3 := (blk_cell (hk.blk HP.out (no_no _)) 1).trans rfl))
      go_quiet (fail)
      go_wp2
      go_ret
      exact ⟨rfl, TabTo.same HR.out ((HK.out.trans hk).drewN _)⟩
    · have he : takeE (T c) a b = 0 := by rw [hE]; simp [hlen]
      have ht : takeT T c a b = setT T c (insL (T c) (place (T c) a) (a, b)) := by simp [takeT, he]
      rw [he, ht]
      clear he ht hE
      go_enter Try.func11, Try.ntmps11
      go_wp2_with (first | (go_at_call 25; refine (right_b a b _ true hrt.out).mono ?_; rintro e w' ⟨rfl, rfl⟩) | (go_at_call 26; refine (place_any HR2.out HT.out c a).mono ?_; rintro e w3 ⟨rfl, hk⟩; have hc3 := (blk_cell (hk.blk HP.out (no_no _)) 1).trans rfl))
      go_quiet (fail)
      go_wp2
      generalize hwd : w3.drewN _ = wd
      have hkd : Kp No ((w.alloc (.cells #[.int .i64 a, .int .i64 b] 23)).alloc (.cells #[.int .i64 a, .int .i64 b] 23)) wd := by rw [← hwd]; exact hk.drewN _
      have c1 := hkd.cellS q1 (no_no _)
      have HQ1 := Lib.hid q1
      have c2 : wd.cell? ⟨w.heap.size, 0, none⟩ = some (.int .i64 a) := hkd.cellS ((blk_cell HP.out 0).trans rfl) (no_no _)
      have c3 : wd.cell? ⟨w.heap.size, 1, none⟩ = some (.int .i64 b) := hkd.cellS ((blk_cell HP.out 1).trans rfl) (no_no _)
      have hz1 : bt < wd.heap.size := by have := hkd.size; simp at this; omega
      have hz2 : w.heap.size < wd.heap.size := by have := hkd.size; simp at this; omega
      have HD := Lib.hid hkd
      have hvne : Hid ((Value.slice A (T c).length cap).ownBlock ≠ some wd.heap.size) := fun e => by have := HFL.out _ (HV.out _ e); omega
      have HOW := Lib.hid (H.out.kpNo hkd)
      clear hkd hwd hk hc3 q1
      go_region_held3 (fun w' => w'.cell? ⟨bt, 0, none⟩ = some (.map (some bm)) ∧ w'.cell? ⟨w.heap.size, 0, none⟩ = some (.int .i64 a) ∧ w'.cell? ⟨w.heap.size, 1, none⟩ = some (.int .i64 b)) (first | exact ⟨by assumption, by assumption, by assumption⟩ | simp [go_sem, World.cell?_alloc_past, *])
        (first
          | (go_at_call 27; refine (insert_any _ (T c) (a, b) _ _ (place (T c) a) hle (by exact HOW.out.alloc _) (Nat.le_trans (HT.out c).len (by decide)) (by exact OwnB.one wd a b) hvne.out _ rfl).mono ?_; rintro e w4 ⟨v', rfl, k1, k2, k3⟩; obtain ⟨⟨d1, d2, d3⟩, w5, hu, htab, e1, e2, e3⟩ := take_mid HK.out HD.out HS.out HV.out HFL.out HBN.out hbt HQ1.out HP.out k1 k2.ofDrew k3; have HTB := Lib.hid htab; clear k1 k2 k3 htab))
      go_wp2
      go_ret
      exact ⟨rfl, HTB.out⟩
end Go.Proofs.Ytihnbgokkhbjnaa
