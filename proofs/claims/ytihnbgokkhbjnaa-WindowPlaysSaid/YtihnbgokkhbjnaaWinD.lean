/- Drop. -/
import Derived.Test.YtihnbgokkhbjnaaWinN
namespace Go.Proofs.Ytihnbgokkhbjnaa
set_option linter.unusedVariables false
set_option linter.unusedSimpArgs false
open Go.RowKit

def dropT (T : Int → List (Int × Int)) (c : Int) (x : Int × Int) : Int → List (Int × Int) := if x ∈ T c then setT T c ((T c).eraseIdx ((T c).idxOf x)) else T
def dropE (l : List (Int × Int)) (x : Int × Int) : Int := if x ∈ l then 0 else 2

/-- What is known behind the call of Delete, in Drop. -/
theorem drop_mid {w w2 w4 : World} {bt bm g cap : Nat} {T : Int → List (Int × Int)} {F : Nat → Prop} {c : Int} {v : Value} {l l' : List (Int × Int)}
    (hk : Kp No w w2) (hcm : cap ≤ maxLen) (hv0 : v = .slice (some ⟨g, 0, none⟩) l.length cap) (hs : ∀ w1 v' l', Kp (fun k => v.ownBlock = some k) w2 w1 → Own WK 23 w1 v' l' → (∀ g, v'.ownBlock = some g → v.ownBlock = some g ∨ w2.heap.size ≤ g) →
        ∃ w5 F', (Instr.mapUpdate 51 (.map (some bm)) (.int .i64 c) v').run Try.prog w1 = .ok () w5 ∧ RepT w5 bt (setT T c l') F' ∧ Kp F w2 w5 ∧ ∀ k, F' k → F k ∨ w2.heap.size ≤ k)
    (hv : ∀ g, v.ownBlock = some g → F g) (hbn : ¬ F bt)
    (c1 : w2.cell? ⟨bt, 0, none⟩ = some (.map (some bm)))
    (k1 : OwnB WK 23 w4 g cap l') (k2 : Kp (fun k => k = g) w2 w4) :
    w4.cell? ⟨bt, 0, none⟩ = some (.map (some bm)) ∧
    ∃ w5, (Instr.mapUpdate 51 (.map (some bm)) (.int .i64 c) (.slice (some ⟨g, 0, none⟩) l'.length cap)).run Try.prog w4 = .ok () w5 ∧ TabTo bt (setT T c l') F w w5 ∧ w5.cell? ⟨bt, 0, none⟩ = some (.map (some bm)) := by
  subst hv0
  have hkk : Kp (fun k => (Value.slice (some ⟨g, 0, none⟩) l.length cap).ownBlock = some k) w2 w4 := k2.mono fun k _ h => by simp [Value.ownBlock, h]
  have hsz := hk.size
  obtain ⟨w5, F', r1, r2, r3, r4⟩ := hs w4 _ l' hkk (k1.own hcm) (fun g hg => .inl hg)
  exact ⟨hkk.cellS c1 fun h => hbn (hv bt h), w5, r1, ⟨F', r2, (hk.mono (fun _ _ h => h.elim)).trans r3, fun k h => (r4 k h).imp id (fun h => by omega)⟩, r3.cellS c1 hbn⟩

set_option maxRecDepth 100000 in
theorem drop_any {w : World} {bt : Nat} {T : Int → List (Int × Int)} {F : Nat → Prop} (h : RepT w bt T F) (hT : WFT T) (c : Int) (x : Int × Int) :
    Calls Try.prog 24 #[.pointer (some ⟨bt, 0, none⟩), .int .i64 c, .agg #[.int .i64 x.1, .int .i64 x.2]] w fun e w' => e = .returned (.int .i64 (dropE (T c) x)) ∧ TabTo bt (dropT T c x) F w w' := by
  have HT := Lib.hid hT
  have HR := Lib.hid h
  have hk2 : Kp No w (w.alloc (.cells #[.int .i64 x.1, .int .i64 x.2] 23)) := (Kp.refl _ _).alloc _
  have h2 := h.kpNo hk2
  obtain ⟨bm, v, q1, q2, q3, q4, q5⟩ := h2.at c
  have q2a := q2 1
  have hp1 : (w.alloc (.cells #[.int .i64 x.1, .int .i64 x.2] 23)).cell? ⟨w.heap.size, 0, none⟩ = some (.int .i64 x.1) := by simp
  have hp2 : (w.alloc (.cells #[.int .i64 x.1, .int .i64 x.2] 23)).cell? ⟨w.heap.size, 1, none⟩ = some (.int .i64 x.2) := by simp
  have hbt := h.lt.1
  have HR2 := Lib.hid h2
  have H := Lib.hid q3
  have HK := Lib.hid hk2
  have HB := Lib.hid h2.bt_not
  have HV := Lib.hid q4
  have HS := Lib.hid q5
  change Sem.run _ _ (w.alloc _).drew = .ok v (w.alloc _).drew at q2a
  clear hT h q2 q3 h2 hk2 q4 q5
  by_cases hx : ¬ x ∈ T c
  · have he : dropE (T c) x = 2 := by simp [dropE, hx]
    have ht : dropT T c x = T := by simp [dropT, hx]
    have hi : idxW (T c) x = -1 := by simp [idxW, hx]
    rw [he, ht]
    have HI := Lib.hid hi
    clear he ht hi hx
    go_enter Try.func24, Try.ntmps24
    go_wp2
    go_region_held3 (fun w' => w'.cell? ⟨bt, 0, none⟩ = some (.map (some bm)) ∧ w'.cell? ⟨w.heap.size, 0, none⟩ = some (.int .i64 x.1) ∧ w'.cell? ⟨w.heap.size, 1, none⟩ = some (.int .i64 x.2)) (first | exact ⟨by assumption, by assumption, by assumption⟩ | simp [go_sem, *])
      (first
        | (go_at_call 32; refine (index_any v (T c) x _ (by exact H.out.rd) (Nat.le_trans (HT.out c).len (by decide))).mono ?_; rintro e w4 ⟨rfl, k1⟩; rw [HI.out]; have k1 := k1.ofDrew; have d1 := k1.cellS q1 (no_no _); have d2 := k1.cellS hp1 (no_no _); have d3 := k1.cellS hp2 (no_no _); have K1 := Lib.hid k1; clear k1))
    go_wp2
    go_ret
    exact ⟨rfl, TabTo.same HR.out (HK.out.trans K1.out)⟩
  · have hx := Decidable.not_not.1 hx
    have he : dropE (T c) x = 0 := by simp [dropE, hx]
    have ht : dropT T c x = setT T c ((T c).eraseIdx ((T c).idxOf x)) := by simp [dropT, hx]
    have hi : idxW (T c) x = ((T c).idxOf x : Int) := by simp [idxW, hx]
    have hil : (T c).idxOf x < (T c).length := List.idxOf_lt_length_of_mem hx
    rw [he, ht]
    obtain ⟨i, hie⟩ : ∃ i, i = (T c).idxOf x := ⟨_, rfl⟩
    rw [← hie] at hi hil ⊢
    have HI := Lib.hid hi
    have hiI : ((i : Int) < 0) = False := by simp
    have HX := Lib.hid hx
    clear he ht hi hx hie
    go_enter Try.func24, Try.ntmps24
    go_wp2
    go_region_held3 (fun w' => w'.cell? ⟨bt, 0, none⟩ = some (.map (some bm)) ∧ w'.cell? ⟨w.heap.size, 0, none⟩ = some (.int .i64 x.1) ∧ w'.cell? ⟨w.heap.size, 1, none⟩ = some (.int .i64 x.2)) (first | exact ⟨by assumption, by assumption, by assumption⟩ | simp [go_sem, *])
      (first
        | (go_at_call 32; refine (index_any v (T c) x _ (by exact H.out.rd) (Nat.le_trans (HT.out c).len (by decide))).mono ?_; rintro e w4 ⟨rfl, k1⟩; rw [HI.out]; have k1 := k1.ofDrew; have d1 := k1.cellS q1 (no_no _); have d2 := k1.cellS hp1 (no_no _); have d3 := k1.cellS hp2 (no_no _); have K1 := Lib.hid k1; clear k1))
    go_wp2
    obtain ⟨bm', v', r1, r2, r3, r4, r5⟩ := (HR2.out.kpNo K1.out).at c
    obtain rfl : bm' = bm := by rw [r1] at d1; simpa using d1
    have r2 := r2 1
    rcases r3.b with ⟨hv, he'⟩ | ⟨g, cap, hv, hcm, hlc, hB⟩
    · have := HX.out; rw [he'] at this; simp at this
    subst hv
    change Sem.run _ _ w4.drew = .ok _ w4.drew at r2
    have HBB := Lib.hid hB
    have HCM := Lib.hid hcm
    have HV' := Lib.hid r4
    have HS' := Lib.hid r5
    have hil2 : (i : Int) < (T c).length := by omega
    have hw1 : IntKind.i64.wrap ((i : Int) + 1) = (i : Int) + 1 := IntWalk.i64_in _ (by have := (HT.out c).len; omega)
    have HLN := Lib.hid (HT.out c).len
    clear r1 r3 r4 r5 hB hcm q2a
    go_region_held3 (fun w' => w'.cell? ⟨bt, 0, none⟩ = some (.map (some bm'))) (first | assumption | simp [go_sem, *])
      (first
        | (go_at_call 33; refine (delete_any g cap (T c) i _ _ rfl hil (Nat.le_trans HLN.out (by decide)) hlc HCM.out (by exact HBB.out) _ _ rfl rfl).mono ?_; rintro e w5 ⟨rfl, k1, k2⟩; obtain ⟨e1, w6, hu, htab, e2⟩ := drop_mid (HK.out.trans K1.out) HCM.out rfl HS'.out HV'.out HB.out d1 k2 k1.ofDrew; have HTB := Lib.hid htab; clear k1 k2 htab))
    go_wp2
    go_ret
    exact ⟨rfl, HTB.out⟩
end Go.Proofs.Ytihnbgokkhbjnaa
