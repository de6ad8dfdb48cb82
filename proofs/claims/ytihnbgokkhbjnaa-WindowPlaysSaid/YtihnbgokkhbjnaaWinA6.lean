/- slices.Insert at windows. -/
import Derived.Test.YtihnbgokkhbjnaaWinA5
namespace Go.Proofs.Ytihnbgokkhbjnaa
set_option linter.unusedVariables false
set_option linter.unusedSimpArgs false
open Go.RowKit

theorem zeroW' : ∀ z, (Try.prog.info? 23).bind (·.zero) = some z → z.cells.toList = WK.enc (0, 0) := by
  intro z hz
  obtain ⟨i, hi, h0, _, _⟩ := info_parts (P := Try.prog) (e := 23) (z := .agg #[.int .i64 0, .int .i64 0]) (size := 2) (bytes := 16) (by kernel_rfl)
  rw [hi] at hz
  simp only [Option.bind_some, h0, Option.some.injEq] at hz
  subst hz
  rfl

theorem ov_a : Extern.findNext Try.f36 = none := by kernel_rfl
theorem ov_b : Extern.find Try.f36 = some (Extern.SlicesOverlaps.overlaps #[30, 30] #[4]) := by kernel_rfl
theorem ov_c : Try.f36.name = "slices.overlaps[carfax/api.Window]" := by kernel_rfl
theorem ov_d : Try.f36.body = none := by kernel_rfl
theorem ov_e (t : TypeId) (r : Array TypeId) (a b : Addr) (la ca lb cb : Nat) : Extern.SlicesOverlaps.overlaps #[t, t] r #[.slice (some a) la ca, .slice (some b) lb cb] = (do
    let .slice elem ← underlying t | stuck "slices.overlaps: slice type expected"
    let size ← sizeOf elem
    if la = 0 ∨ lb = 0 ∨ size = 0 then pure (.bool false)
    else if a.block != b.block && (← frozen a) && (← frozen b) then unsupported .addressObserved
    else do
      if a.block != b.block then do
        noView a; noView b
        if ← mayBeOne a b then return .bool ((← choose (.extern "sameAddr.stringBytes" 2)) == 1)
      pure (.bool (a.block == b.block && a.off < b.off + lb * size && b.off < a.off + la * size))) := rfl
theorem overlaps_no (g gx o3 k c : Nat) (cs cs' : Array Value) (w : World) (hne : gx ≠ g) (h1 : w.heap[g]? = some (.cells cs 23 (0, 0))) (h2 : w.heap[gx]? = some (.cells cs' 23 (0, 0))) :
   (callFunc 36 #[.slice (some ⟨gx, 0, none⟩) 1 1, .slice (some ⟨g, o3, none⟩) k c]).run Try.prog w = .ok (.value (.bool false)) w := by
  have s1 : w.shape? g = some (23, cs.size) := by simp [World.shape?, h1]
  have s2 : w.shape? gx = some (23, cs'.size) := by simp [World.shape?, h2]
  have f1 := fun i => blk_free h1 i
  have f2 := fun i => blk_free h2 i
  obtain ⟨ht, i, z, hi, hz, hsize, hby, hzs⟩ := elW
  simp [callFunc, ov_a, ov_b, ov_c, ov_d]
  rw [ov_e]
  simp [run_underlying ht, sizeOf, typeInfo, hi, noView, viewAt, mayBeOne, stringish, s1, s2, f1, f2, hne]

def insL (l : List (Int × Int)) (i : Nat) (x : Int × Int) : List (Int × Int) := l.take i ++ [x] ++ l.drop i

/-- What Insert hands back: a slice of its own that reads as l, in the old block, or in a new one. -/
def RetOwn {α : Type} (K : Kd α) (e : TypeId) (l : List α) (v : Value) (w : World) (en : Ending) (w' : World) : Prop :=
  ∃ v', en = .returned v' ∧ Own K e w' v' l ∧ Kp (fun k => v.ownBlock = some k) w w' ∧ ∀ g, v'.ownBlock = some g → v.ownBlock = some g ∨ w.heap.size ≤ g

/-- At the end: append. -/
theorem insert_end (v : Value) (l : List (Int × Int)) (x : Int × Int) (gx : Nat) (w : World) (hown : Own WK 23 w v l) (hl : l.length ≤ 1000000) (hx : Rd WK w (.slice (some ⟨gx, 0, none⟩) 1 1) [x]) (n : Int) (hn : n = l.length) :
    Calls Try.prog 27 #[v, .int .i64 n, .slice (some ⟨gx, 0, none⟩) 1 1] w (RetOwn WK 23 (l ++ [x]) v w) := by
  have key : ∃ s2, (∀ w, (Instr.slice 30 v (some (.int .i64 n)) none none).run Try.prog w = .ok s2 w) ∧ ∃ A c, v = .slice A l.length c := by
    rcases hown.b with ⟨rfl, rfl⟩ | ⟨g, cap, rfl, hm, hc, hB⟩
    · subst hn; exact ⟨_, fun w => run_slice_nil_lo elW w, _, _, rfl⟩
    · obtain ⟨o', _, h⟩ := run_slice_lo elW g 0 l.length cap l.length (Nat.le_refl _) n hn
      exact ⟨_, h, _, _, rfl⟩
  obtain ⟨s2, hs2, A, c, rfl⟩ := key
  have H := Lib.hid hown; have HX := Lib.hid hx
  have he : (n == (l.length : Int)) = true := by simp [hn]
  clear hown hx hn
  go_enter Try.func27, Try.ntmps27
  go_wp2_with (at_builtin; refine wpl_append elW rfl (.tmp 23) (.tmp 24) rfl rfl rfl (l := l) (m := [x]) H.out HX.out ?c3 ?c4 ?c5)
  case c3 => unfold maxLen; simp; omega
  case c4 => simp; omega
  case c5 =>
    intro v' w' h1 h2 h3
    have K1 := Lib.hid h1; have K2 := Lib.hid h2; have K3 := Lib.hid h3; clear h1 h2 h3
    go_wp2
    go_ret
    exact ⟨_, rfl, K1.out, K2.out, K3.out⟩

theorem ins_list (l : List (Int × Int)) (i k : Nat) (x z : Int × Int) (hi : i ≤ l.length) (hk : k = l.length + 1 - i) :
    ((((l.take i ++ List.replicate k z).take i ++ [x] ++ (l.take i ++ List.replicate k z).drop (i + 1)).take (i + 1)) ++ l.drop i ++ ((l.take i ++ List.replicate k z).take i ++ [x] ++ (l.take i ++ List.replicate k z).drop (i + 1)).drop (i + 1 + (l.drop i).length)) = l.take i ++ [x] ++ l.drop i := by
  have h1 : (l.take i ++ List.replicate k z).take i = l.take i := by
    rw [List.take_append_of_le_length (by simp; omega), List.take_take, Nat.min_self]
  have hl : (l.take i).length = i := by simp; omega
  rw [h1]
  have h2 : (l.take i ++ [x] ++ (l.take i ++ List.replicate k z).drop (i + 1)).take (i + 1) = l.take i ++ [x] := by
    rw [List.take_append_of_le_length (by simp; omega), List.take_of_length_le (by simp; omega)]
  have h3 : (l.take i ++ [x] ++ (l.take i ++ List.replicate k z).drop (i + 1)).drop (i + 1 + (l.drop i).length) = [] := List.drop_eq_nil_of_le (by simp; omega)
  rw [h2, h3, List.append_nil]

set_option maxRecDepth 100000 in
/-- Where there is no room. -/
theorem insert_grow (g : Nat) (l : List (Int × Int)) (x : Int × Int) (gx : Nat) (w : World) (i : Nat) (hi : i < l.length) (hB : OwnB WK 23 w g l.length l) (hl : l.length ≤ 1000000) (hx : Rd WK w (.slice (some ⟨gx, 0, none⟩) 1 1) [x]) (n : Int) (hn : n = i) :
    Calls Try.prog 27 #[.slice (some ⟨g, 0, none⟩) l.length l.length, .int .i64 n, .slice (some ⟨gx, 0, none⟩) 1 1] w (RetOwn WK 23 (insL l i x) (.slice (some ⟨g, 0, none⟩) l.length l.length) w) := by
  have hxlt : gx < w.heap.size := World.block_lt_of_cell? w ⟨gx, 0, none⟩ (Rd.winAt hx (i := 0) (x := x) rfl).1
  obtain ⟨o1, ho1, s1⟩ := run_slice_lo elW g 0 l.length l.length i (by omega) n hn
  have s2 := run_slice_hi elW g 0 l.length l.length i (by omega) n hn
  obtain ⟨w1, cap', a1, hB1, hc1, hK1⟩ := (hB.take i).appendMake elW (0, 0) zeroW' 3 (by kernel_rfl) (l.length + 1 - i) i (l.length + 1) (by simp; omega) (by simp; omega) (by simp; omega) (by simp; omega) (by simp; omega) (by unfold maxLen; omega) ((l.length : Int) + 1 - n) (by omega)
  have hcl : l.length + 1 ≤ cap' := by have := hB1.choose_spec.2.1; simp at this; omega
  obtain ⟨o2, ho2, s3⟩ := run_slice_lo elW w.heap.size 0 (l.length + 1) cap' i (by omega) n hn
  obtain ⟨w2, a2, hB2, hK2⟩ := hB1.copied elW (off := i) [x] (by simp; omega) (by simp; omega) o2 (l.length + 1 - i) (cap' - i) (some ⟨gx, 0, none⟩) 1 1 (by simp; omega) (fun _ => by rw [ho2 (by omega), Nat.zero_add])
    (fun _ => ⟨gx, 0, rfl, (hx.kpNo hK1).cells gx 0 1 1 rfl⟩)
  obtain ⟨o3, ho3, s4⟩ := run_slice_lo elW w.heap.size 0 (l.length + 1) cap' (i + 1) (by omega) (n + 1) (by omega)
  have hgl := hB.lt
  have hBs : OwnB WK 23 w2.drew g l.length l := ((hB.kp hK1 (no_no _)).kp hK2 (by omega)).drew
  obtain ⟨w3, a3, hB3, hK3⟩ := hB2.drew.copied elW (off := i + 1) (l.drop i) (by simp; omega) (by simp; omega) o3 (l.length - i) (cap' - (i + 1)) (some ⟨g, o1, none⟩) (l.length - i) (l.length - i) (by simp) (fun hp => by simp at hp; rw [ho3 (by omega), Nat.zero_add])
    (fun hp => ⟨g, o1, rfl, fun j u hu => by
      rw [ho1 (by omega), Nat.zero_add]
      rw [← WK.encs_drop, List.getElem?_drop] at hu
      exact hBs.cells _ u hu⟩)
  rw [show i + [x].length = i + 1 from rfl, ins_list l i _ x (0, 0) (by omega) rfl] at hB3
  have hKK : Kp No w w3 := (hK1.trans' (hK2.drew.trans hK3) (fun k hk h => by have := hK1.size; omega)).mono (fun k _ h => h)
  have hlen3 : (l.take i ++ [x] ++ l.drop i).length = l.length + 1 := by simp; omega
  have hfin : RetOwn WK 23 (insL l i x) (.slice (some ⟨g, 0, none⟩) l.length l.length) w (.returned (.slice (some ⟨w.heap.size, 0, none⟩) (l.length + 1) cap')) w3 :=
    ⟨_, rfl, by have := hB3.own hc1; rw [hlen3] at this; exact this, hKK.mono (fun k _ h => h.elim), fun g' hg' => .inr (by simp [Value.ownBlock] at hg'; omega)⟩
  have HF := Lib.hid hfin; have H1 := Lib.hid a1; have H2 := Lib.hid a2; have H3 := Lib.hid a3
  have n0 : 0 ≤ n := by omega
  have n1 : n < l.length := by omega
  have hw1 : IntKind.i64.wrap (n + 1) = n + 1 := IntWalk.i64_in _ (by omega)
  have he : (n == (l.length : Int)) = false := by simp; omega
  have hcap : l.length ≤ cap' := by omega
  clear hfin a1 a2 a3 hB hB1 hB2 hB3 hBs hK1 hK2 hK3 hKK hlen3 hx hn ho1 ho2 ho3 hcl hc1
  go_enter Try.func27, Try.ntmps27
  go_wp2_with (first | (at_builtin; refine wpl_runAppend rfl (.tmp 34) (.tmp 39) 30 3 rfl rfl rfl H1.out ?_) | (refine wpl_runCopy rfl (.tmp 43) (.tmp 44) 30 30 rfl rfl rfl H2.out ?_))
  go_still_tail 8, (by kernel_rfl)
  change wpList _ _ _ _ _ w2.drew
  go_wp2_with (refine wpl_runCopy rfl (.tmp 50) (.tmp 53) 30 30 rfl rfl rfl H3.out ?_)
  go_ret
  exact HF.out

theorem ins_list2 (l : List (Int × Int)) (i : Nat) (x : Int × Int) (hi : i < l.length) :
    ((l.take (i + 1) ++ l.drop i ++ l.drop (i + 1 + (l.drop i).length)).take i ++ [x] ++ (l.take (i + 1) ++ l.drop i ++ l.drop (i + 1 + (l.drop i).length)).drop (i + 1)) = l.take i ++ [x] ++ l.drop i := by
  have h3 : l.drop (i + 1 + (l.drop i).length) = [] := List.drop_eq_nil_of_le (by simp; omega)
  rw [h3, List.append_nil]
  have h1 : (l.take (i + 1) ++ l.drop i).take i = l.take i := by
    rw [List.take_append_of_le_length (by simp; omega), List.take_take, Nat.min_eq_left (by omega)]
  have h2 : (l.take (i + 1) ++ l.drop i).drop (i + 1) = l.drop i := by
    have hl : (l.take (i + 1)).length = i + 1 := by simp; omega
    rw [List.drop_append, hl, List.drop_eq_nil_of_le (by simp; omega), Nat.sub_self, List.nil_append, List.drop_zero]
  rw [h1, h2]

set_option maxRecDepth 100000 in
/-- Where there is room. -/
theorem insert_room (g cap : Nat) (l : List (Int × Int)) (x : Int × Int) (gx : Nat) (w : World) (i : Nat) (hi : i < l.length) (hB : OwnB WK 23 w g cap l) (hc : l.length < cap) (hcm : cap ≤ maxLen) (hl : l.length ≤ 1000000) (hx : OwnB WK 23 w gx 1 [x]) (hne : gx ≠ g) (n : Int) (hn : n = i) :
    Calls Try.prog 27 #[.slice (some ⟨g, 0, none⟩) l.length cap, .int .i64 n, .slice (some ⟨gx, 0, none⟩) 1 1] w (RetOwn WK 23 (insL l i x) (.slice (some ⟨g, 0, none⟩) l.length cap) w) := by
  obtain ⟨o1, ho1, s1⟩ := run_slice_lo elW g 0 l.length cap i (by omega) n hn
  have s2 := run_slice_hi elW g 0 l.length cap (l.length + 1) (by omega) ((l.length : Int) + 1) (by omega)
  obtain ⟨o3, ho3, s3⟩ := run_slice_lo elW g 0 (l.length + 1) cap (i + 1) (by omega) (n + 1) (by omega)
  obtain ⟨o4, ho4, s4⟩ := run_slice_lo elW g 0 (l.length + 1) cap i (by omega) n hn
  obtain ⟨w2, a2, hB2, hK2⟩ := hB.drew.copied elW (off := i + 1) (l.drop i) (by omega) (by simp; omega) o3 (l.length - i) (cap - (i + 1)) (some ⟨g, o4, none⟩) (l.length + 1 - i) (cap - i) (by simp; omega) (fun hp => by simp at hp; rw [ho3 (by omega), Nat.zero_add])
    (fun hp => ⟨g, o4, rfl, fun j u hu => by
      rw [ho4 (by omega), Nat.zero_add]
      rw [← WK.encs_drop, List.getElem?_drop] at hu
      exact hB.drew.cells _ u hu⟩)
  obtain ⟨w3, a3, hB3, hK3⟩ := hB2.copied elW (off := i) [x] (by simp; omega) (by simp; omega) o4 (l.length + 1 - i) (cap - i) (some ⟨gx, 0, none⟩) 1 1 (by simp; omega) (fun _ => by rw [ho4 (by omega), Nat.zero_add])
    (fun _ => ⟨gx, 0, rfl, fun j u hu => by rw [Nat.zero_add]; exact (hx.drew.kp hK2 hne).cells j u hu⟩)
  rw [show i + [x].length = i + 1 from rfl, ins_list2 l i x hi] at hB3
  have hlen3 : (l.take i ++ [x] ++ l.drop i).length = l.length + 1 := by simp; omega
  have hfin : RetOwn WK 23 (insL l i x) (.slice (some ⟨g, 0, none⟩) l.length cap) w (.returned (.slice (some ⟨g, 0, none⟩) (l.length + 1) cap)) w3 :=
    ⟨_, rfl, by have := hB3.own hcm; rw [hlen3] at this; exact this, (((Kp.refl (fun k => k = g) w).drew.trans hK2).trans hK3).mono (fun k _ h => by simp [Value.ownBlock, h]), fun g' hg' => .inl hg'⟩
  have HF := Lib.hid hfin; have H2 := Lib.hid a2; have H3 := Lib.hid a3
  have n0 : 0 ≤ n := by omega
  have n1 : n < l.length := by omega
  have hw1 : IntKind.i64.wrap (n + 1) = n + 1 := IntWalk.i64_in _ (by omega)
  have he : (n == (l.length : Int)) = false := by simp; omega
  unfold maxLen at hcm
  have hov := overlaps_no g gx o3 (l.length - i) (cap - (i + 1)) _ _ w hne hB.choose_spec.1 hx.choose_spec.1
  clear hfin a2 a3 hB hB2 hB3 hK2 hK3 hlen3 hx hn ho1 ho3 ho4
  go_enter Try.func27, Try.ntmps27
  go_wp2_with (simp only [hov])
  go_still_tail 8, (by kernel_rfl)
  change wpList _ _ _ _ _ w.drew
  go_wp2_with (first | (refine wpl_runCopy rfl (.tmp 73) (.tmp 76) 30 30 rfl rfl rfl H2.out ?_) | (refine wpl_runCopy rfl (.tmp 80) (.tmp 81) 30 30 rfl rfl rfl H3.out ?_))
  go_ret
  exact HF.out

theorem insert_any (v : Value) (l : List (Int × Int)) (x : Int × Int) (gx : Nat) (w : World) (i : Nat) (hi : i ≤ l.length) (hown : Own WK 23 w v l) (hl : l.length ≤ 1000000) (hx : OwnB WK 23 w gx 1 [x]) (hne : v.ownBlock ≠ some gx) (n : Int) (hn : n = i) :
    Calls Try.prog 27 #[v, .int .i64 n, .slice (some ⟨gx, 0, none⟩) 1 1] w (RetOwn WK 23 (insL l i x) v w) := by
  have hxr : Rd WK w (.slice (some ⟨gx, 0, none⟩) 1 1) [x] := (hx.own (by decide)).rd
  by_cases he : i = l.length
  · have : insL l i x = l ++ [x] := by simp [insL, he]
    rw [this]
    exact insert_end v l x gx w hown hl hxr n (by omega)
  · rcases hown.b with ⟨rfl, rfl⟩ | ⟨g, cap, rfl, hm, hc, hB⟩
    · simp at hi; simp [hi] at he
    · by_cases hr : l.length < cap
      · exact insert_room g cap l x gx w i (by omega) hB hr hm hl hx (fun e => hne (by rw [e]; rfl)) n hn
      · obtain rfl : cap = l.length := by omega
        exact insert_grow g l x gx w i (by omega) hB hl hxr n hn
end Go.Proofs.Ytihnbgokkhbjnaa
