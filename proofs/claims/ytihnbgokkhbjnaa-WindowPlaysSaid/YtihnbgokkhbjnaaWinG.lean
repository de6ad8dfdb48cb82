/- Forget. -/
import Derived.Test.YtihnbgokkhbjnaaWinF
import Derived.Deep.LoopGhost
namespace Go.Proofs.Ytihnbgokkhbjnaa
set_option linter.unusedVariables false
set_option linter.unusedSimpArgs false
open Go.RowKit

/-- The table, its map's order in sight. -/
def RepE (w : World) (bt : Nat) (T : Int → List (Int × Int)) (F : Nat → Prop) (bm : Nat) (es : List (Int × Value)) : Prop :=
  w.heap[bt]? = some (.cells #[.map (some bm)] 53 (0, 0)) ∧ (∀ x ∈ es, Own WK 23 w x.2 (T x.1)) ∧ (∀ c, c ∉ es.map (·.1) → T c = []) ∧
    (∀ x ∈ es, ∀ y ∈ es, ∀ g, x.2.ownBlock = some g → y.2.ownBlock = some g → x = y) ∧ ∀ b, F b ↔ b = bm ∨ ∃ x ∈ es, x.2.ownBlock = some b

theorem RepT.e {w : World} {bt : Nat} {T : Int → List (Int × Int)} {F : Nat → Prop} (h : RepT w bt T F) : ∃ bm es, MapI w bm es ∧ RepE w bt T F bm es :=
  let ⟨bm, es, h1, h2, h3⟩ := h
  ⟨bm, es, h2, h1, h3⟩
theorem RepE.t {w : World} {bt bm : Nat} {es : List (Int × Value)} {T : Int → List (Int × Int)} {F : Nat → Prop} (h : RepE w bt T F bm es) (hm : MapI w bm es) : RepT w bt T F :=
  ⟨bm, es, h.1, hm, h.2⟩

theorem map_not_cells {w : World} {bm : Nat} {es : List (Int × Value)} (hm : MapI w bm es) {cs : Array Value} {t : TypeId} {fr : Nat × Nat} (h : w.heap[bm]? = some (.cells cs t fr)) : False := by
  obtain ⟨arr, clk, h2, _⟩ := hm
  rw [h2] at h
  simp at h

/-- A value is stored at a key that the map holds. -/
theorem RepE.store {w w1 w2 : World} {bt bm : Nat} {es : List (Int × Value)} {T : Int → List (Int × Int)} {F : Nat → Prop} (h : RepE w bt T F bm es) (hm : MapI w bm es) {x : Int × Value} (hx : x ∈ es) {v' : Value} {l' : List (Int × Int)} (hbt : bt < w.heap.size)
    (hk : Kp No w w1) (hown' : Own WK 23 w1 v' l') (hblk : ∀ g, v'.ownBlock = some g → w.heap.size ≤ g) (hk2 : Kp (fun j => j = bm) w1 w2) :
    ∃ F', RepE w2 bt (setT T x.1 l') F' bm (updV es x.1 v') ∧ (∀ k, F' k → F k ∨ w.heap.size ≤ k) := by
  have hnd : (es.map (·.1)).Nodup := let ⟨_, _, _, _, h, _⟩ := hm; h
  obtain ⟨a1, a3, a4, a5, a6⟩ := h
  have hbn : bt ≠ bm := fun e => map_not_cells hm (e ▸ a1)
  have hbml := hm.lt
  refine ⟨fun b => b = bm ∨ ∃ y ∈ updV es x.1 v', y.2.ownBlock = some b, ⟨hk2.blk (hk.blk a1 (no_no _)) hbn, ?_, ?_, ?_, fun b => Iff.rfl⟩, ?_⟩
  · intro y hy
    rcases (mem_updV hnd y).1 hy with rfl | ⟨hy', hne⟩
    · simp only [setT, if_true]
      exact hown'.kp hk2 fun g hg e => by have := hblk g hg; omega
    · simp only [setT, if_neg hne]
      refine ((a3 y hy').kpNo hk).kp hk2 ?_
      rintro g hg rfl
      rcases a3 y hy' with ⟨hv, _⟩ | ⟨g', cap, cur, hv, hb', _⟩
      · rw [hv] at hg; simp [Value.ownBlock] at hg
      · rw [hv] at hg
        simp [Value.ownBlock] at hg
        subst hg
        exact map_not_cells hm hb'
  · intro c' hc'
    have hcc : c' ≠ x.1 := by
      rintro rfl
      exact hc' (List.mem_map.2 ⟨(x.1, v'), (mem_updV hnd _).2 (.inl rfl), rfl⟩)
    simp only [setT, if_neg hcc]
    refine a4 c' fun hmm => hc' ?_
    obtain ⟨y, hy, rfl⟩ := List.mem_map.1 hmm
    exact List.mem_map.2 ⟨y, (mem_updV hnd _).2 (.inr ⟨hy, hcc⟩), rfl⟩
  · intro y hy z hz g hgy hgz
    have key : ∀ z, z ∈ es → z.2.ownBlock = some g → v'.ownBlock = some g → False := by
      intro z hz hzg hvg
      have := (a3 z hz).lt hzg
      have := hblk g hvg
      omega
    rcases (mem_updV hnd y).1 hy with rfl | ⟨hy', hyc⟩ <;> rcases (mem_updV hnd z).1 hz with rfl | ⟨hz', hzc⟩
    · rfl
    · exact (key z hz' hgz hgy).elim
    · exact (key y hy' hgy hgz).elim
    · exact a5 y hy' z hz' g hgy hgz
  · intro k hk'
    rcases hk' with rfl | ⟨y, hy, hyk⟩
    · exact .inl ((a6 k).2 (.inl rfl))
    · rcases (mem_updV hnd y).1 hy with rfl | ⟨hy', _⟩
      · exact .inr (hblk k hyk)
      · exact .inl ((a6 k).2 (.inr ⟨y, hy', hyk⟩))

def forgetT (T : Int → List (Int × Int)) (m : Int) (done : List Int) : Int → List (Int × Int) := fun c => if c ∈ done then (T c).drop (place (T c) m) else T c

theorem forgetT_cons (T : Int → List (Int × Int)) (m c : Int) (done : List Int) (hc : c ∉ done) : setT (forgetT T m done) c ((forgetT T m done c).drop (place (forgetT T m done c) m)) = forgetT T m (c :: done) := by
  funext c'
  by_cases h : c' = c
  · subst h; simp [setT, forgetT, hc]
  · simp [setT, forgetT, h]

theorem WFL.drop {l : List (Int × Int)} (h : WFL l) (n : Nat) : WFL (l.drop n) :=
  ⟨fun x hx => h.rt x (List.mem_of_mem_drop hx), h.ord.sublist (List.drop_sublist _ _), by have := h.len; simp; omega⟩
theorem WFT.forget {T : Int → List (Int × Int)} (h : WFT T) (m : Int) (done : List Int) : WFT (forgetT T m done) := by
  intro c
  unfold forgetT
  split
  · exact (h c).drop _
  · exact h c

theorem RepE.kp {w w' : World} {bt bm : Nat} {es : List (Int × Value)} {T : Int → List (Int × Int)} {F S : Nat → Prop} (h : RepE w bt T F bm es) (hk : Kp S w w') (h1 : ¬ S bt) (h2 : ∀ b, F b → ¬ S b) : RepE w' bt T F bm es := by
  obtain ⟨a1, a3, a4, a5, a6⟩ := h
  exact ⟨hk.blk a1 h1, fun x hx => (a3 x hx).kp hk fun g hg => h2 g ((a6 g).2 (.inr ⟨x, hx, hg⟩)), a4, a5, a6⟩

theorem keys_updV {es : List (Int × Value)} {c : Int} {v : Value} (h : c ∈ es.map (·.1)) : (updV es c v).map (·.1) = es.map (·.1) := by
  induction es with
  | nil => simp at h
  | cons x es ih =>
    by_cases hc : c = x.1
    · simp [updV, hc]
    · simp only [List.map_cons, List.mem_cons, hc, false_or] at h
      simp [updV, hc, ih h]

/-- The relation of the loop over the map. -/
structure FInv (w : World) (bt bm : Nat) (T : Int → List (Int × Int)) (F : Nat → Prop) (m : Int) (keys : List Int) (g : Nat) (wr : World) (done : List Int) (es : List (Int × Value)) (F' : Nat → Prop) : Prop where
  rng : RangeI wr w.heap.size bm es done
  rep : RepE wr bt (forgetT T m done) F' bm es
  ks : es.map (·.1) = keys
  kp : Kp F w wr
  fr : ∀ k, F' k → F k ∨ w.heap.size ≤ k
  it : ¬ F' w.heap.size
  num : g = (keys.filter (fun c => !(done.contains c))).length

theorem FInv.last {w wr : World} {bt bm : Nat} {T : Int → List (Int × Int)} {F F' : Nat → Prop} {m : Int} {keys : List Int} {g : Nat} {done : List Int} {es : List (Int × Value)} (h : FInv w bt bm T F m keys g wr done es F') (hd : ∀ x ∈ es, x.1 ∈ done) :
    TabTo bt (fun c => (T c).drop (place (T c) m)) F w wr := by
  have he : forgetT T m done = fun c => (T c).drop (place (T c) m) := by
    funext c
    by_cases hc : c ∈ done
    · simp [forgetT, hc]
    · have : c ∉ es.map (·.1) := fun hm => by obtain ⟨x, hx, rfl⟩ := List.mem_map.1 hm; exact hc (hd x hx)
      have h0 := h.rep.2.2.1 c this
      simp only [forgetT, hc, if_false] at h0 ⊢
      rw [h0]; rfl
  exact ⟨F', he ▸ h.rep.t h.rng.map, h.kp, h.fr⟩

/-- One round: an entry has come (world w1), its value is cut and laid anew (v', world w2), and stored (world w3). -/
theorem FInv.step {w wr w1 w2 : World} {bt bm : Nat} {T : Int → List (Int × Int)} {F F' : Nat → Prop} {m : Int} {keys : List Int} {g : Nat} {done : List Int} {es : List (Int × Value)} (h : FInv w bt bm T F m keys g wr done es F') (hbt : bt < w.heap.size) {x : Int × Value} (hx : x ∈ es) (hxd : x.1 ∉ done)
    (hr : RangeI w1 w.heap.size bm es (x.1 :: done)) (hk1 : Kp (fun j => j = w.heap.size) wr w1) (hk2 : Kp No w1 w2) {v' : Value} (hv : Own WK 23 w2 v' ((forgetT T m done x.1).drop (place (forgetT T m done x.1) m))) (hblk : ∀ g, v'.ownBlock = some g → w1.heap.size ≤ g) :
    ∃ w3 es' F'' g', (Instr.mapUpdate 51 (.map (some bm)) (.int .i64 x.1) v').run Try.prog w2 = .ok () w3 ∧ g' < g ∧ FInv w bt bm T F m keys g' w3 (x.1 :: done) es' F'' ∧ w3.cell? ⟨bt, 0, none⟩ = some (.map (some bm)) := by
  obtain ⟨rng, rep, ks, kp, fr, it, num⟩ := h
  have hmn : bm ≠ w.heap.size := fun e => rng.ne e.symm
  have hsz := kp.size
  have hrl := rng.lt
  have hsz1 := hk1.size
  have rep1 : RepE w1 bt (forgetT T m done) F' bm es := rep.kp hk1 (by omega) (fun b hb e => it (e ▸ hb))
  have hr2 := hr.kp hk2 (no_no _) (no_no _)
  obtain ⟨w3, hu, hr3, hk3⟩ := hr2.upd (P := Try.prog) mapW x.1 (List.mem_map_of_mem (f := Prod.fst) hx) v'
  obtain ⟨F'', rep3, fr3⟩ := rep1.store hr.map hx (by omega) hk2 hv hblk hk3
  rw [forgetT_cons T m x.1 done hxd] at rep3
  have hFbm : F bm ∨ w.heap.size ≤ bm := fr bm ((rep.2.2.2.2 bm).2 (.inl rfl))
  refine ⟨w3, _, F'', _, hu, ?_, ⟨hr3, rep3, by rw [keys_updV (List.mem_map_of_mem (f := Prod.fst) hx), ks], ?_, ?_, ?_, rfl⟩, (blk_cell rep3.1 0).trans rfl⟩
  · rw [num]
    have hxk : x.1 ∈ keys := ks ▸ List.mem_map_of_mem (f := Prod.fst) hx
    exact filter_lt (fun c => !(done.contains c)) (fun c => !((x.1 :: done).contains c)) (fun c hc => by simp at hc ⊢; exact hc.2) x.1 (by simp [hxd]) (by simp) keys hxk
  · refine ((kp.trans' hk1 fun k hk e => ?_).no hk2).trans' hk3 fun k hk e => ?_
    · omega
    · subst e; rcases hFbm with h | h
      · exact h
      · omega
  · intro k hk
    rcases fr3 k hk with h | h
    · exact fr k h
    · exact .inr (by omega)
  · intro hF
    rcases fr3 _ hF with h | h
    · exact it h
    · omega

set_option maxRecDepth 100000 in
theorem forget_any {w : World} {bt : Nat} {T : Int → List (Int × Int)} {F : Nat → Prop} (h : RepT w bt T F) (hT : WFT T) (m : Int) :
    Calls Try.prog 17 #[.pointer (some ⟨bt, 0, none⟩), .int .i64 m] w fun e w' => e = .returned (.tuple #[]) ∧ TabTo bt (fun c => (T c).drop (place (T c) m)) F w w' := by
  have HT := Lib.hid hT
  have hbt := h.lt.1
  have HFL := Lib.hid h.lt.2
  obtain ⟨bm, es, hm, he⟩ := h.e
  have hc1 := (blk_cell he.1 0).trans rfl
  obtain ⟨hr, hri⟩ := hm.range mapW
  generalize (Exists.choose_spec hm).choose = ck at hr hri
  have HI : Hid (FInv w bt bm T F m (es.map (·.1)) ((es.map (·.1)).filter (fun c => !(([] : List Int).contains c))).length (w.alloc (.mapIter (some bm) ck #[] ck)) [] es F) :=
    ⟨hri, (show RepE w bt (forgetT T m []) F bm es by
      have : forgetT T m [] = T := by funext c; simp [forgetT]
      rw [this]; exact he).kp ((Kp.refl No _).alloc _) (no_no _) (fun _ _ => no_no _), rfl, (Kp.refl _ _).alloc _, fun _ h => .inl h, fun h' => by have := h.lt.2 _ h'; omega, rfl⟩
  simp only [List.getElem?_toArray, List.getElem?_cons_zero] at hc1
  generalize es.map (·.1) = keys at HI
  clear h hT hm he hri
  go_enter Try.func17, Try.ntmps17
  go_wp2
  go_loopg [4, 5] (keys.filter (fun c => !(([] : List Int).contains c))).length (fun g _ _ wr => ∃ done es' F', FInv w bt bm T F m keys g wr done es' F')
  case atStart => exact ⟨[], es, F, HI.out⟩
  case round =>
    obtain ⟨done, es', F', hI⟩ := hrel
    have HI2 := Lib.hid hI
    rcases hI.rng.next (P := Try.prog) 0 with ⟨hd, hrun⟩ | ⟨x, hx, hxd, w1, hrun, hr1, hk1, hent⟩
    · have HL := Lib.hid (hI.last hd)
      clear hI hd
      go_wp2
      go_end0
      exact ⟨rfl, HL.out⟩
    · have hwk : WFT (forgetT T m done) := HT.out.forget m done
      have hF' : ∀ b, F' b → b ≠ w.heap.size := fun b hb e => hI.it (e ▸ hb)
      have hle := hI.kp.size
      have rep1 : RepE w1 bt (forgetT T m done) F' bm es' := hI.rep.kp hk1 (by omega) (fun b hb e => hF' b hb e)
      have HRT := Lib.hid (rep1.t hr1.map)
      have hown := rep1.2.1 x hx
      have hpl := place_le (forgetT T m done x.1) m
      obtain ⟨v2, hsl, hrd2, hb2⟩ := hown.rd.from elW (place (forgetT T m done x.1) m) hpl _ rfl
      have hc1' := (blk_cell rep1.1 0).trans rfl
      have HW := Lib.hid hwk
      have HX := Lib.hid hx; have HXD := Lib.hid hxd; have HR1 := Lib.hid hr1; have HK1 := Lib.hid hk1; have HRD := Lib.hid hrd2
      have hbt1 : bt < w1.heap.size := by have := hk1.size; omega
      simp only [List.getElem?_toArray, List.getElem?_cons_zero] at hc1'
      have hln := Lib.hid (hwk x.1).len
      clear hI hx hxd hr1 hk1 hrd2 rep1 hown hwk hF' hb2
      obtain ⟨c, xv⟩ := x
      simp only at hrun hent hsl hpl
      go_wp2
      go_region_held3 (fun w' => w'.cell? ⟨bt, 0, none⟩ = some (.map (some bm))) (first | assumption | simp [go_sem, *])
        (first
          | (go_at_call 26; refine (place_any (w := w1.drew) (by exact HRT.out) HW.out c m).mono ?_; rintro e w2 ⟨rfl, k1⟩; have e1 := (Kp.ofDrew k1).cellS hc1' (no_no _); have K1 := Lib.hid (Kp.ofDrew k1); clear k1)
          | (go_at_call 28; refine (clone_any v2 _ _ (HRD.out.kpNo K1.out) (by rw [List.length_drop]; exact Nat.le_trans (Nat.sub_le _ _) (Nat.le_trans hln.out (by decide)))).mono ?_; rintro e w3 ⟨v', rfl, k2, k3, k4⟩; obtain ⟨w4, es'', F'', g', hu, hg', hI', e2⟩ := HI2.out.step hbt HX.out HXD.out HR1.out HK1.out (K1.out.trans k3) k2 (fun j hj => Nat.le_trans K1.out.size (k4 j hj)); have e3 := k3.cellS e1 (no_no _); have HI3 := Lib.hid hI'; clear k2 k3 k4 hI'))
      go_wp2
      go_roundg g'
      case measure => exact hg'
      case rel => exact ⟨_, _, _, HI3.out⟩
end Go.Proofs.Ytihnbgokkhbjnaa
