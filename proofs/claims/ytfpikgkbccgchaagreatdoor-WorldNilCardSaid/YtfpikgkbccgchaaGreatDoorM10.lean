/- slices.Index, slices.Contains of ints; world: New; world: New, the walk; robots: what packets do; the document's examples; carfaxlaw19.shown; carfaxlaw19.WorldNil: a nil world (written by bin/gen_wd.py); Arguments: floors; Arguments: slices of ints; Arguments of carfaxlaw19: acts. No condition. -/
import Derived.Test.YtfpikgkbccgchaaGreatDoorM6
import Derived.Deep.LoopGhost
import Derived.Test.YtfpikgkbccgchaaGreatDoorM8
import Derived.Test.YtfpikgkbccgchaaGreatDoorM9
import Derived.Test.YtfpikgkbccgchaaGreatDoorM4
import Derived.OpenShut
import Derived.Lib.SmallJoins
import Derived.Test.YtfpikgkbccgchaaGreatDoorM5

namespace Go.Proofs.YtfpikgkbccgchaaGreatDoor
set_option linter.unusedVariables false
set_option linter.unusedSimpArgs false
open Go.RowKit

set_option maxRecDepth 100000 in
theorem idxI_any {w : World} {v : Value} {l : List Int} (hv : Rd IK w v l) (x : Int) :
    Calls Tryz.prog 77 #[v, .int .i64 x] w fun e w' => ∃ i : Int, e = .returned (.int .i64 i) ∧ (0 ≤ i ↔ x ∈ l) ∧ Kp No w w' := by
  have hl := hv.lenI
  obtain ⟨A, c, rfl⟩ := hv.shape
  obtain ⟨n, hn⟩ : ∃ n, n = l.length := ⟨_, rfl⟩
  rw [← hn] at hv hl ⊢
  have H := Lib.hid hv; have HN := Lib.hid hn
  unfold maxLen at hl
  clear hv hn
  go_enter Tryz.func77, Tryz.ntmps77
  go_wp2_with fail
  go_loopg [8] (n + 1) (fun g_ iv wx => ∃ i : Nat, g_ = n + 1 - i ∧ iv = .int .i64 i ∧ i ≤ n ∧ (∀ y ∈ l.take i, y ≠ x) ∧ Kp No w wx)
  case atStart => exact ⟨0, rfl, rfl, by omega, by simp, Kp.refl _ _⟩
  case round =>
    obtain ⟨i, hg, rfl, hi, hno, kp⟩ := hrel
    have NO := Lib.hid hno; have KP := Lib.hid kp
    clear hno kp
    by_cases hlt : i < n
    · have hltI : (i : Int) < (n : Int) := by omega
      have hwi : IntKind.i64.wrap ((i : Int) + 1) = (i : Int) + 1 := IntWalk.i64_in _ (by omega)
      obtain ⟨y, hy⟩ : ∃ y, l[i]? = some y := ⟨_, List.getElem?_eq_getElem (by rw [← HN.out]; exact hlt)⟩
      rcases H.out with ⟨_, he⟩ | ⟨g, o, cap', hv, _⟩
      · have := HN.out; rw [he, List.length_nil] at this; omega
      simp only [Value.slice.injEq] at hv
      obtain ⟨rfl, hzz, rfl⟩ := hv
      clear hzz
      have hc := (H.out.kpNo KP.out).intAt hy
      have HY := Lib.hid hy
      clear hy hlt
      by_cases hxy : x = y
      · subst hxy
        go_wp2_with fail
        go_ret
        exact ⟨i, rfl, ⟨fun _ => List.mem_of_getElem? HY.out, fun _ => by omega⟩, KP.out⟩
      · have hb : (x == y) = false := by simpa using hxy
        have NO2 := Lib.hid (show ∀ z ∈ l.take (i + 1), z ≠ x from fun z hz => by
          rw [List.take_add_one, HY.out] at hz
          rcases List.mem_append.1 hz with h | h
          · exact NO.out z h
          · simp at h; subst h; exact fun e => hxy e.symm)
        clear hxy
        go_wp2_with fail
        go_roundg (n + 1 - (i + 1))
        case measure => omega
        case rel => exact ⟨i + 1, rfl, by go_num, by omega, NO2.out, KP.out⟩
    · obtain rfl : i = n := by omega
      have hd0 : ¬ (i : Int) < (i : Int) := by omega
      have NO2 := Lib.hid (show x ∉ l from fun h => by
        have := NO.out x (by rw [HN.out, List.take_length]; exact h)
        exact this rfl)
      clear hlt
      go_wp2_with fail
      go_ret
      exact ⟨-1, rfl, ⟨fun h => by omega, fun h => absurd h NO2.out⟩, KP.out⟩
set_option maxRecDepth 100000 in
theorem conI_any {w : World} {v : Value} {l : List Int} (hv : Rd IK w v l) (x : Int) (b : Bool) (hb : b = decide (x ∈ l)) :
    Calls Tryz.prog 33 #[v, .int .i64 x] w fun e w' => e = .returned (.bool b) ∧ Kp No w w' := by
  have HI := Lib.hid (idxI_any hv x)
  have HB := Lib.hid hb
  clear hv hb
  go_enter Tryz.func33, Tryz.ntmps33
  go_wp2_with fail
  refine HI.out.mono ?_
  rintro e w1 ⟨i, rfl, hi, kp⟩
  have HE := Lib.hid (show decide (0 ≤ i) = b by rw [HB.out, decide_eq_decide]; exact hi)
  have K1 := Lib.hid kp
  clear hi kp
  go_wp2_with fail
  go_ret
  exact ⟨by have := HE.out; simp at this ⊢; exact this, K1.out⟩
end Go.Proofs.YtfpikgkbccgchaaGreatDoor

namespace Go.Proofs.YtfpikgkbccgchaaGreatDoor
set_option linter.unusedVariables false
set_option linter.unusedSimpArgs false
open Go.RowKit

noncomputable def podOk1 (f : Flr) (pods : List Int) (i : Nat) : Bool := match pods[i]? with | none => true | some c => (zoneP f c).isSome && !decide (c ∈ pods.take i)
noncomputable def podsOk (f : Flr) (pods : List Int) (k : Nat) : Bool := (List.range k).all (podOk1 f pods)
theorem podsOk_succ (f : Flr) (pods : List Int) (k : Nat) : podsOk f pods (k + 1) = (podsOk f pods k && podOk1 f pods k) := by
  unfold podsOk; rw [List.range_succ, List.all_append]; simp
theorem podsOk_le {f : Flr} {pods : List Int} {k n : Nat} (h : podsOk f pods n = true) (hk : k ≤ n) : podsOk f pods k = true := by
  unfold podsOk at h ⊢
  rw [List.all_eq_true] at h ⊢
  intro x hx
  exact h x (List.mem_range.2 (by have := List.mem_range.1 hx; omega))
noncomputable def newE (f : Flr) (pods : List Int) (charge : Int) : Int := if rightB f = false then 30 else if 64 < pods.length ∨ charge < 0 then 1 else if podsOk f pods pods.length = true then 0 else 1
noncomputable def newW (f : Flr) (charge : Int) (n : Nat) : List PU := (List.range n).map fun (i : Nat) => ⟨newRob (((dockP f (i : Int)).getD 0 : Nat) : Int) charge, [], []⟩
theorem newW_succ (f : Flr) (charge : Int) (n : Nat) : newW f charge (n + 1) = newW f charge n ++ [⟨newRob (((dockP f (n : Int)).getD 0 : Nat) : Int) charge, [], []⟩] := by
  unfold newW; rw [List.range_succ, List.map_append]; rfl
def NewWR (f : Flr) (pods : List Int) (charge : Int) (w : World) (e : Ending) (w' : World) : Prop :=
  (newE f pods charge ≠ 0 ∧ e = .returned (.tuple #[.pointer none, .int .i64 (newE f pods charge)]) ∧ Kp No w w') ∨
    (newE f pods charge = 0 ∧ ∃ pw, e = .returned (.tuple #[.pointer (some ⟨pw, 0, none⟩), .int .i64 0]) ∧ WldP No w pw (newW f charge (robotsP f)) (pods.map fun c => (c, -1)) w')
section
variable {G : Nat → Prop} {w0 w w2 : World} {pw : Nat} {uv pv uv' pv' : Value} {U : List Un} {P P' : List (Int × Int)}
/-- The pods are other ones, elsewhere. -/
theorem WldS.newPd (h : WldS G w0 pw uv pv U P w) (hk : Kp (fun k => pv.ownBlock = some k) w w2) (hp : Own PdK 82 w2 pv' P') (hb : ∀ g, pv'.ownBlock = some g → pv.ownBlock = some g ∨ w.heap.size ≤ g) : WldS G w0 pw uv pv' U P' (w2.setCell ⟨pw, 1, none⟩ pv') := by
  have ty := Ty.own h.pd
  have h2 := hk.blk h.blk (ty.not h.blk (by decide))
  have k2 := Kp.one (w := w2) (p := pw) 1 pv'
  have ty2 := Ty.one h2
  have us2 := h.us.kp hk (ty.notO h.us (by decide))
  refine ⟨(blk_set h2 1 pv').trans rfl, us2.kp k2 (ty2.notO us2 (by decide)), hp.kp k2 (ty2.notO hp (by decide)), fun i u hu => ?_, h.ap, ⟨h.ge.1, h.ge.2.1, fun g hg => ?_⟩, (h.kp.trans' hk fun k hk e => ?_).trans' k2 fun k hk e => ?_⟩
  · have hm := h.un i u hu
    have hm2 : UnM G w0.heap.size u w2 := hm.far hk (fun k hk hs => by
      obtain ⟨cs, t, h1, h2⟩ := hm.ty k hk
      exact ty.not h2 (fun e => by rw [List.mem_singleton.1 e] at h1; revert h1; decide) hs) ty ⟨by decide, by decide⟩
    exact hm2.far k2 (fun k hk hs => by
      obtain ⟨cs, t, h1, h3⟩ := hm2.ty k hk
      exact ty2.not h3 (fun e => by rw [List.mem_singleton.1 e] at h1; revert h1; decide) hs) ty2 ⟨by decide, by decide⟩
  · rcases hb g hg with e | e
    · exact h.ge.2.2 g e
    · exact .inr (by have := h.kp.size; omega)
  · exact (h.ge.2.2 k e).resolve_right (by omega)
  · have e : k = pw := e
    subst e
    exact h.ge.1.resolve_right (by omega)
/-- One more unit. -/
theorem WldS.newUn {u : Un} (h : WldS G w0 pw uv pv U P w) (hk : Kp (fun k => uv.ownBlock = some k) w w2) (hp : Own UnK 89 w2 uv' ((U ++ [u]).map Un.ptr)) (hb : ∀ g, uv'.ownBlock = some g → uv.ownBlock = some g ∨ w0.heap.size ≤ g) (hu : UnM G w0.heap.size u w) (ha : ∀ (j : Nat) v, U[j]? = some v → Apart v u ∧ Apart u v) : WldS G w0 pw uv' pv (U ++ [u]) P (w2.setCell ⟨pw, 0, none⟩ uv') := by
  have ty := Ty.own h.us
  have h2 := hk.blk h.blk (ty.not h.blk (by decide))
  have k2 := Kp.one (w := w2) (p := pw) 0 uv'
  have ty2 := Ty.one h2
  have pd2 := h.pd.kp hk (ty.notO h.pd (by decide))
  have far : ∀ v, UnM G w0.heap.size v w → UnM G w0.heap.size v (w2.setCell ⟨pw, 0, none⟩ uv') := fun v hm => by
    have hm2 : UnM G w0.heap.size v w2 := hm.far hk (fun k hk hs => by
      obtain ⟨cs, t, h1, h2⟩ := hm.ty k hk
      exact ty.not h2 (fun e => by rw [List.mem_singleton.1 e] at h1; revert h1; decide) hs) ty ⟨by decide, by decide⟩
    exact hm2.far k2 (fun k hk hs => by
      obtain ⟨cs, t, h1, h3⟩ := hm2.ty k hk
      exact ty2.not h3 (fun e => by rw [List.mem_singleton.1 e] at h1; revert h1; decide) hs) ty2 ⟨by decide, by decide⟩
  have get : ∀ (j : Nat) v, (U ++ [u])[j]? = some v → U[j]? = some v ∨ (j = U.length ∧ v = u) := by
    intro j v hv
    rcases Nat.lt_or_ge j U.length with hj | hj
    · rw [List.getElem?_append_left hj] at hv; exact .inl hv
    · rw [List.getElem?_append_right hj] at hv
      have : j - U.length = 0 := by
        have := (List.getElem?_eq_some_iff.1 hv).1
        simp at this; omega
      rw [this] at hv
      simp at hv
      exact .inr ⟨by omega, hv.symm⟩
  refine ⟨(blk_set h2 0 uv').trans rfl, hp.kp k2 (ty2.notO hp (by decide)), pd2.kp k2 (ty2.notO pd2 (by decide)), fun i v hv => ?_, fun i j v v' hij hv hv' => ?_, ⟨h.ge.1, fun g hg => ?_, h.ge.2.2⟩, (h.kp.trans' hk fun k hk e => ?_).trans' k2 fun k hk e => ?_⟩
  · rcases get i v hv with h1 | ⟨_, rfl⟩
    · exact far v (h.un i v h1)
    · exact far v hu
  · rcases get i v hv with h1 | ⟨e1, rfl⟩ <;> rcases get j v' hv' with h2 | ⟨e2, rfl⟩
    · exact h.ap i j v v' hij h1 h2
    · exact (ha i v h1).1
    · exact (ha j v' h2).2
    · omega
  · rcases hb g hg with e | e
    · exact h.ge.2.1 g e
    · exact .inr e
  · exact (h.ge.2.1 k e).resolve_right (by omega)
  · have e : k = pw := e
    subst e
    exact h.ge.1.resolve_right (by omega)
end
theorem wpl_snocPd {w : World} {ops : Array Oper} {rest : List Oper} {o : Oper} {a : Act} {Q : Exit → Act → World → Prop} (hgd : o.guard = none) (s x : Operand)
    (ho : o.op = .call { callee := .builtin .append, args := #[s, x], argTypes := #[75, 75] }) {v : Value} {b m : Nat} {y : Int × Int} {z1 z2 : Int} {L : List (Int × Int)} (hs : a.eval s = v) (hxv : a.eval x = .slice (some ⟨b, 0, none⟩) 1 1) (hb : b = w.heap.size) (hz1 : z1 = y.1) (hz2 : z2 = y.2)
    (ns : Own PdK 82 w v L) (hm : m = L.length) (hl : m ≤ 1000000)
    (h : ∀ A q w', Own PdK 82 w' (.slice A (m + 1) q) (L ++ [y]) → Kp (fun k => v.ownBlock = some k) w w' → (∀ g, (Value.slice A (m + 1) q).ownBlock = some g → v.ownBlock = some g ∨ w.heap.size ≤ g) → wpList Tryz.prog ops Q rest (a.put o.dst (.slice A (m + 1) q)) w') :
    wpList Tryz.prog ops Q (o :: rest) a (w.alloc (.cells #[.int .i64 z1, .int .i64 z2] 82)) := by
  subst hb hm hz1 hz2
  refine wpl_append elPd hgd s x ho hs hxv (l := L) (m := [y]) (ns.alloc _) (Rd.litAt PdK 82 _ _ [y] rfl (by unfold maxLen; simp) _ _ rfl rfl) (by unfold maxLen; simp; omega) (by simp; omega) ?_
  intro v' w' k1 k2 k3
  obtain ⟨A, c, rfl⟩ := k1.rd.shape
  rw [List.length_append, List.length_singleton] at k1 k3 ⊢
  exact h A c w' k1 (((Kp.refl _ _).alloc _).trans k2) (fun g hg => (k3 g hg).imp id fun e => by simp at e; omega)
end Go.Proofs.YtfpikgkbccgchaaGreatDoor

namespace Go.Proofs.YtfpikgkbccgchaaGreatDoor
set_option linter.unusedVariables false
set_option linter.unusedSimpArgs false
open Go.RowKit

theorem dock_lt {f : Flr} {i d : Nat} (hb : rightB f = true) (h : dockP f (i : Int) = some d) : d < 256 := by
  have r := rightB_iff.1 hb
  have h256 : f.s.size ≤ 256 := r.s256
  unfold dockP at h
  split at h
  · unfold dockAt at h
    have := List.mem_of_find?_eq_some h
    simp at this
    omega
  · cases h
theorem dock_is {f : Flr} {i : Nat} (hb : rightB f = true) (h : i < robotsP f) : ∃ d : Nat, dockP f (i : Int) = some d := by
  have r := rightB_iff.1 hb
  obtain ⟨ds, hd⟩ := r.docks
  have hn : robotsP f = ds.length := by unfold robotsP; rw [if_pos (rightB_t r)]; exact hd.count.symm
  rw [hn] at h
  refine ⟨ds[i], ?_⟩
  unfold dockP
  rw [if_pos ⟨rightB_t r, by omega⟩, Int.toNat_natCast, hd.find, List.getElem?_eq_getElem h]
theorem robots_le8 {f : Flr} (hb : rightB f = true) : robotsP f ≤ 8 := by
  have r := rightB_iff.1 hb
  obtain ⟨ds, hd⟩ := r.docks
  unfold robotsP; rw [if_pos (rightB_t r), hd.count.symm]; exact hd.len
theorem net_at {w w' : World} {p : Nat} {V : Value} {l : List SlH} (h : NetS p V l w) (hk : Kp No w w') : NetS p V l w' := h.no hk
set_option maxHeartbeats 4000000 in
set_option maxRecDepth 100000 in
theorem wnew_any (f : Flr) (hsz : f.s.size ≤ 1000000) {w : World} {pv : Value} {pods : List Int} (hp : Rd IK w pv pods) (hpl : ∀ c ∈ pods, c ≤ 9223372036854775807) (charge : Int) (hch : charge ≤ 9223372036854775807) : Calls Tryz.prog 9 #[f.val, pv, .int .i64 charge] w (NewWR f pods charge w) := by
  obtain ⟨A, cap, rfl⟩ := hp.shape
  have hll := hp.lenI
  unfold maxLen at hll
  obtain ⟨n, hn⟩ : ∃ z, z = pods.length := ⟨_, rfl⟩
  rw [← hn] at hp hll ⊢
  obtain ⟨b, hb⟩ : ∃ b, rightB f = b := ⟨_, rfl⟩
  have RT := Lib.hid (fun w => right_at f (by omega) b hb w)
  have ZN := Lib.hid (fun (c : Int) (hc : c ∈ pods) w => zone_any f (by omega) c (hpl c hc) w)
  have RB := Lib.hid (fun w => robots_at f hsz _ rfl w)
  have DK := Lib.hid (fun (i d : Nat) (h : dockP f (i : Int) = some d) (hi : i < 1000000) w => dock_at f hsz (i : Int) (by omega) (some d) h (.tuple #[.int .i64 (d : Int), .bool true]) rfl w)
  have HB := Lib.hid hb; have HP := Lib.hid hp; have HN := Lib.hid hn; have HCH := Lib.hid hch
  obtain ⟨F, hF⟩ : ∃ F, F = f := ⟨_, rfl⟩
  have HBX := Lib.hid (BxW.new F w)
  rw [← hF] at RT ZN RB DK HB
  rw [← hF]
  obtain ⟨X, Y, sb⟩ := f
  have HV := Lib.hid (show F.val = .agg #[.int .i64 X, .int .i64 Y, .string sb] by rw [hF]; rfl)
  have BC := Lib.hid (show ∀ wx, BxW F w.heap.size w wx → wx.cell? ⟨w.heap.size, 0, none⟩ = some (.int .i64 X) ∧ wx.cell? ⟨w.heap.size, 1, none⟩ = some (.int .i64 Y) ∧ wx.cell? ⟨w.heap.size, 2, none⟩ = some (.string sb) from fun wx h => by rw [hF] at h; exact ⟨h.c0, h.c1, h.c2⟩)
  have B0 := Lib.hid (show BxW F w.heap.size w (w.alloc (.cells #[.int .i64 X, .int .i64 Y, .string sb] 23)) by rw [hF]; rw [hF] at HBX; exact HBX.out)
  rw [HV.out] at RT ZN RB DK ⊢
  obtain ⟨nr, hnr⟩ : ∃ z, z = robotsP F := ⟨_, rfl⟩
  rw [← hnr] at RB
  have HNR := Lib.hid hnr
  clear hF HBX hsz hp hpl hch hn hb hnr
  go_enter Tryz.func9, Tryz.ntmps9
  go_wp2_with fail
  refine (RT.out _).mono ?_
  rintro e w1 ⟨rfl, k1⟩
  have B1 := Lib.hid (B0.out.no k1)
  clear k1
  cases b with
  | false =>
    have HE := Lib.hid (show newE F pods charge = 30 by unfold newE; rw [if_pos HB.out])
    go_wp2_with fail
    go_ret2
    exact .inl ⟨by rw [HE.out]; decide, by rw [HE.out]; rfl, B1.out.kp⟩
  | true =>
    obtain ⟨bg, hbg⟩ : ∃ z, decide (64 < (n : Int)) = z := ⟨_, rfl⟩
    obtain ⟨ng, hng⟩ : ∃ z, decide (charge < 0) = z := ⟨_, rfl⟩
    by_cases hbad : bg = true ∨ ng = true
    · have HE := Lib.hid (show newE F pods charge = 1 by
        unfold newE
        rw [if_neg (by rw [HB.out]; decide), if_pos]
        rcases hbad with h | h
        · left; rw [← HN.out]; rw [h] at hbg; simp at hbg; omega
        · right; rw [h] at hng; simpa using hng)
      have hcs : bg = true ∨ (bg = false ∧ ng = true) := by cases bg <;> simp at hbad ⊢; exact hbad
      clear hbad
      rcases hcs with rfl | ⟨rfl, rfl⟩
      all_goals
        go_wp2_with fail
        go_ret2
        exact .inl ⟨by rw [HE.out]; decide, by rw [HE.out]; rfl, B1.out.kp⟩
    · obtain ⟨rfl, rfl⟩ : bg = false ∧ ng = false := by cases bg <;> cases ng <;> simp at hbad ⊢
      have hn64 : n ≤ 64 := by simp at hbg; omega
      have hc0 : 0 ≤ charge := by simpa using hng
      have HER := Lib.hid (show newE F pods charge = if podsOk F pods pods.length = true then 0 else 1 by
        unfold newE
        rw [if_neg (by rw [HB.out]; decide), if_neg (by rw [← HN.out]; omega)])
      clear hbad
      go_upto_region 6 with fail
      obtain ⟨w2, hw2⟩ : ∃ y : World, y = w1.alloc (.cells #[.slice none 0 0, .slice none 0 0] 77) := ⟨_, rfl⟩
      rw [← hw2]
      have H0 := Lib.hid (show WldS No w1 w1.heap.size (.slice none 0 0) (.slice none 0 0) [] [] w2 by
        rw [hw2]
        exact ⟨blk_new w1 _, Own.nil _ _ _, Own.nil _ _ _, fun i u h => by simp at h, fun i j u v _ h => by simp at h, ⟨.inr (Nat.le_refl _), by simp [Value.ownBlock], by simp [Value.ownBlock]⟩, (Kp.refl _ _).alloc _⟩)
      have LB := Lib.hid (fun wx (hk : Kp No w1 wx) => BC.out wx (B1.out.no hk))
      have HP1 := Lib.hid (HP.out.kpNo B1.out.kp)
      obtain ⟨pw, hpw⟩ : ∃ z, z = w1.heap.size := ⟨_, rfl⟩
      have HPW := Lib.hid (show w1.heap.size ≤ pw by omega)
      rw [← hpw] at H0 ⊢
      clear hw2 hbg hng hpw
      go_wp2_with fail
      go_loopg [32] (n + 1) (fun g_ iv wx => ∃ (i q : Nat) (A' : Option Addr), g_ = n + 1 - i ∧ iv = .int .i64 (i : Int) ∧ i ≤ n ∧ WldS No w1 pw (.slice none 0 0) (.slice A' i q) [] ((pods.take i).map fun c => (c, -1)) wx ∧ podsOk F pods i = true)
      case atStart => exact ⟨0, 0, none, rfl, rfl, by omega, H0.out, rfl⟩
      case round =>
        obtain ⟨i, q, A', hg, rfl, hi, ws, hok⟩ := hrel
        have WS := Lib.hid ws; have OK := Lib.hid hok
        clear ws hok
        by_cases hlt : i < n
        · have hltI : (i : Int) < (n : Int) := by omega
          have hwi : IntKind.i64.wrap ((i : Int) + 1) = (i : Int) + 1 := IntWalk.i64_in _ (by omega)
          obtain ⟨c, hc⟩ : ∃ c, pods[i]? = some c := ⟨_, List.getElem?_eq_getElem (by rw [← HN.out]; exact hlt)⟩
          have RP := Lib.hid (HP1.out.kpNo WS.out.kp)
          obtain ⟨ss, sA, sc, hss, hsl, hsr, hsR, _⟩ := RP.out.upto2 elI i (by rw [← HN.out]; exact hi) (i : Int) rfl
          rw [hsl] at hsr hsR
          rcases RP.out with ⟨_, he⟩ | ⟨g, o, cap', hv, _⟩
          · have := HN.out; rw [he, List.length_nil] at this; omega
          simp only [Value.slice.injEq] at hv
          obtain ⟨rfl, hzz, rfl⟩ := hv
          have hcc := RP.out.intAt hc
          obtain ⟨z0, z1, z2⟩ := LB.out wr WS.out.kp
          obtain ⟨Z, hZ⟩ : ∃ Z, zoneP F c = Z := ⟨_, rfl⟩
          obtain ⟨zn, hzn⟩ : ∃ z : Nat, z = Z.getD 0 := ⟨_, rfl⟩
          obtain ⟨ln, hln⟩ : ∃ z : Bool, (zoneP F c).isSome = z := ⟨_, rfl⟩
          have ZX := Lib.hid (show ∀ w, Calls Tryz.prog 32 #[.agg #[.int .i64 X, .int .i64 Y, .string sb], .int .i64 c] w fun e w' => e = .returned (.tuple #[.int .i64 (zn : Int), .bool ln]) ∧ Kp No w w' from fun w => by
            have h1 := ZN.out c (List.mem_of_getElem? hc) w
            have e : ZVal (zoneP F c) = .tuple #[.int .i64 (zn : Int), .bool ln] := by unfold ZVal; rw [← hln, hZ, ← hzn]
            rwa [e] at h1)
          obtain ⟨mb, hmb⟩ : ∃ z, decide (c ∈ pods.take i) = z := ⟨_, rfl⟩
          have CX := Lib.hid (fun wx (hk : Kp No wr wx) => conI_any (hsR.out.kpNo hk) c mb (by rw [hss.out, hmb]))
          have NXT := Lib.hid (show podsOk F pods (i + 1) = (ln && !mb) by rw [podsOk_succ, OK.out, Bool.true_and]; unfold podOk1; rw [hc]; simp only [hln, hmb])
          have BAD := Lib.hid (show (ln && !mb) = false → newE F pods charge = 1 by
            intro h
            rw [HER.out, if_neg]
            intro h2
            have := podsOk_le h2 (show i + 1 ≤ pods.length by rw [← HN.out]; exact hlt)
            rw [NXT.out, h] at this; cases this)
          have HTK := Lib.hid (show (pods.take (i + 1)).map (fun c => ((c, -1) : Int × Int)) = (pods.take i).map (fun c => (c, -1)) ++ [(c, -1)] by rw [List.take_add_one, hc, List.map_append]; rfl)
          have HLN := Lib.hid (show i = ((pods.take i).map (fun c => ((c, -1) : Int × Int))).length by rw [List.length_map, List.length_take, ← HN.out]; omega)
          clear hc hzz hlt hZ hzn hln hmb hss hsl hsR
          go_wp2_with fail
          refine (ZX.out _).mono ?_
          rintro e w3 ⟨rfl, k3⟩
          have K3 := Lib.hid k3
          have W3 := Lib.hid (WS.out.no k3)
          clear k3 z0 z1 z2
          cases ln with
          | false =>
            have he := BAD.out rfl
            have HE := Lib.hid he
            clear he
            go_wp2_with fail
            go_ret2
            exact .inl ⟨by rw [HE.out]; decide, by rw [HE.out]; rfl, B1.out.kp.no W3.out.kp⟩
          | true =>
            go_wp2_with fail
            refine (CX.out w3 K3.out).mono ?_
            rintro e w4 ⟨rfl, k4⟩
            have W4 := Lib.hid (W3.out.no k4)
            clear k4
            cases mb with
            | true =>
              have he := BAD.out rfl
              have HE := Lib.hid he
              clear he
              go_wp2_with fail
              go_ret2
              exact .inl ⟨by rw [HE.out]; decide, by rw [HE.out]; rfl, B1.out.kp.no W4.out.kp⟩
            | false =>
              have d1 : w4.cell? ⟨pw, 1, none⟩ = some (.slice A' i q) := (blk_cell W4.out.blk 1).trans rfl
              go_wp2_with (at_builtin; refine wpl_snocPd (y := (c, -1)) rfl (.tmp 56) (.tmp 59) rfl rfl rfl rfl rfl rfl W4.out.pd HLN.out (by omega) ?_; intro A5 q5 w5 o5 k5 j5; have H5 := Lib.hid (W4.out.newPd k5 o5 j5); have b5 := k5.blk W4.out.blk ((Ty.own W4.out.pd).not W4.out.blk (by decide)); have f5 : w5.frozen? ⟨pw, 1, none⟩ = false := blk_free b5 1; have d5 : w5.cell? ⟨pw, 1, none⟩ = some (.slice A' i q) := (blk_cell b5 1).trans rfl; clear o5 k5 j5 b5)
              go_roundg (n + 1 - (i + 1))
              case measure => omega
              case rel => exact ⟨i + 1, q5, A5, rfl, by go_num, by omega, by rw [HTK.out]; exact H5.out, by rw [NXT.out]; rfl⟩
        · obtain rfl : n = i := by omega
          have hd0 : ¬ (n : Int) < (n : Int) := by omega
          have HE := Lib.hid (show newE F pods charge = 0 by rw [HER.out, ← HN.out, OK.out]; rfl)
          have W3 := Lib.hid (show WldS No w1 pw (.slice none 0 0) (.slice A' n q) [] (pods.map fun c => (c, -1)) wr by have := WS.out; rwa [HN.out, List.take_length, ← HN.out] at this)
          obtain ⟨w3, hw3⟩ : ∃ y, y = wr := ⟨_, rfl⟩
          subst hw3
          obtain ⟨z0, z1, z2⟩ := LB.out w3 W3.out.kp
          clear hlt
          go_wp2_with fail
          refine (RB.out _).mono ?_
          rintro e w4 ⟨rfl, k4⟩
          have W4 := Lib.hid (W3.out.no k4)
          clear k4 z0 z1 z2
          have hnr8 : nr ≤ 8 := by rw [HNR.out]; exact robots_le8 HB.out
          go_wp2_with fail
          go_loopg [66] (nr + 1) (fun g_ iv wx => ∃ (j q2 : Nat) (A2 : Option Addr) (U : List Un), g_ = nr + 1 - j ∧ iv = .int .i64 (j : Int) ∧ j ≤ nr ∧ U.length = j ∧ WldS No w1 pw (.slice A2 j q2) (.slice A' n q) U (pods.map fun c => (c, -1)) wx ∧ U.map Un.pl = newW F charge j)
          case atStart => exact ⟨0, 0, none, [], rfl, rfl, by omega, rfl, W4.out, rfl⟩
          case round =>
            obtain ⟨j, q2, A2, U, hg2, rfl, hj, hul, ws, hpl⟩ := hrel
            have WS2 := Lib.hid ws; have HUL := Lib.hid hul; have HPL := Lib.hid hpl
            clear ws hul hpl
            by_cases hlt : j < nr
            · have hltI : (j : Int) < (nr : Int) := by omega
              have hwj : IntKind.i64.wrap ((j : Int) + 1) = (j : Int) + 1 := IntWalk.i64_in _ (by omega)
              obtain ⟨d, hd⟩ := dock_is (f := F) HB.out (show j < robotsP F by rw [← HNR.out]; exact hlt)
              have DX := Lib.hid (DK.out j d hd (by omega))
              have hd256 := dock_lt HB.out hd
              have HD := Lib.hid hd
              obtain ⟨z0, z1, z2⟩ := LB.out wr WS2.out.kp
              clear hd hlt
              go_wp2_with fail
              refine (DX.out _).mono ?_
              rintro e w5 ⟨rfl, k5⟩
              have W5 := Lib.hid (WS2.out.no k5)
              have HEF := Lib.hid (show newRobE (d : Int) charge = false by unfold newRobE; simp; omega)
              clear k5 z0 z1 z2
              go_wp2_with fail
              refine (newRob_any (d : Int) charge w5).mono ?_
              rintro e w6 (⟨h, _⟩ | ⟨_, p, ph, ps, rfl, rs, k6, gp, gh, gs⟩)
              · rw [HEF.out] at h; cases h
              have RS := Lib.hid rs; have K6 := Lib.hid k6; have G6 := Lib.hid (And.intro gp (And.intro gh gs))
              have W6 := Lib.hid (W5.out.no k6)
              have c0 : w6.cell? ⟨pw, 0, none⟩ = some (.slice A2 j q2) := (blk_cell W6.out.blk 0).trans rfl
              clear rs k6 gp gh gs
              have L1 := Lib.hid (show ∀ x : Nat × Nat × Nat, (U.map Un.ptr).length + [x].length ≤ maxLen ∧ ((U.map Un.ptr).length + [x].length) * 24 ≤ 140737488355328 from fun x => by
                rw [List.length_map, HUL.out, List.length_singleton]
                unfold maxLen
                omega)
              go_upto_region 21 with fail
              go_region_law (first
                | (apply stp_append elUn rfl (.tmp 88) (.tmp 93) rfl rfl rfl (WB.out.us.alloc _) EB.out (L1.out _).1 (L1.out _).2; intro v7 w7 m1 m2 m3; obtain ⟨A7, c7, hv7⟩ := m1.rd.shape; rw [List.length_append, List.length_map, HUL.out, List.length_singleton] at hv7; subst hv7; have B7 := m2.blk (blk_alloc WB.out.blk _) (fun e => own_neB WB.out.us WB.out.blk (by decide) pw e rfl); have F7 : w7.frozen? ⟨pw, 0, none⟩ = false := blk_free B7 0; have C7 : w7.cell? ⟨pw, 0, none⟩ = some (.slice A2 j q2) := (blk_cell B7 0).trans rfl; have M1 := Lib.hid m1; have M2 := Lib.hid m2; have M3 := Lib.hid m3; clear m1 m2 m3 B7)
                | (go_simp; go_at_call 36; refine (newNet_any wa).mono ?_; rintro e wb ⟨pf, rfl, nf, kf, gf, _⟩; have NF := Lib.hid nf; have KF := Lib.hid kf; have GF := Lib.hid gf; have WB := Lib.hid (WA.out.no kf); have EB := Lib.hid (Rd.litAt UnK 89 wb #[.pointer (some ⟨p, 0, none⟩), .pointer (some ⟨pt, 0, none⟩), .pointer (some ⟨pf, 0, none⟩)] [(p, pt, pf)] rfl (by unfold maxLen; simp) _ 1 rfl rfl); have CB : wb.cell? ⟨pw, 0, none⟩ = some (.slice A2 j q2) := (blk_cell WB.out.blk 0).trans rfl; have DB : ∀ o, (wb.alloc o).cell? ⟨pw, 0, none⟩ = some (.slice A2 j q2) := (fun o => (blk_cell (blk_alloc WB.out.blk o) 0).trans rfl); clear nf kf gf)
                | (go_simp; go_at_call 36; refine (newNet_any w6.drew).mono ?_; rintro e wa ⟨pt, rfl, nt, kt, gt, _⟩; have NT := Lib.hid nt; have KT := Lib.hid kt.ofDrew; have GT := Lib.hid gt; have WA := Lib.hid (W6.out.no kt.ofDrew); have CA : wa.cell? ⟨pw, 0, none⟩ = some (.slice A2 j q2) := (blk_cell WA.out.blk 0).trans rfl; clear nt kt gt))
              all_goals
                have z6 := K6.out.size; have za := KT.out.size; have zb := KF.out.size
                have zt : w6.heap.size ≤ pt := GT.out
                have zf : wa.heap.size ≤ pf := GF.out
                have ZZ := Lib.hid (show w1.heap.size ≤ w5.heap.size from W5.out.kp.size)
                have UU := Lib.hid (show UnM No w1.heap.size ⟨p, ph, ps, pt, pf, none, .slice none 0 0, .slice none 0 0, .slice none 0 0, newRob (d : Int) charge, [], []⟩ wb from
                  ⟨RS.out.no (KT.out.no KF.out), NT.out.no KF.out, NF.out, by have h1 := lt_of_block NT.out.blk; show pt ≠ pf; omega, by simp [Value.ownBlock], fun k hk => .inr <| by
                    have := G6.out; have := ZZ.out
                    rcases hk with e | e | e | e | e | e | e
                    · have e : k = p := e; omega
                    · have e : k = ph := e; omega
                    · have e : k = ps := e; omega
                    · have e : k = pt := e; omega
                    · have e : k = pf := e; omega
                    · simp [Value.ownBlock] at e
                    · simp [Value.ownBlock] at e, newRob_ok HEF.out HCH.out, ⟨by simp, by simp⟩, ⟨by simp, by simp⟩⟩)
                have UB := Lib.hid (show ∀ k, UnB ⟨p, ph, ps, pt, pf, none, .slice none 0 0, .slice none 0 0, .slice none 0 0, newRob (d : Int) charge, [], []⟩ k → w5.heap.size ≤ k from fun k hk => by
                    have := G6.out
                    rcases hk with e | e | e | e | e | e | e
                    · have e : k = p := e; omega
                    · have e : k = ph := e; omega
                    · have e : k = ps := e; omega
                    · have e : k = pt := e; omega
                    · have e : k = pf := e; omega
                    · simp [Value.ownBlock] at e
                    · simp [Value.ownBlock] at e)
                have W8 := Lib.hid (WB.out.newUn (u := ⟨p, ph, ps, pt, pf, none, .slice none 0 0, .slice none 0 0, .slice none 0 0, newRob (d : Int) charge, [], []⟩) (((Kp.refl _ _).alloc _).trans M2.out) (by rw [List.map_append]; exact M1.out) (fun g hg => (M3.out g hg).imp id fun e => by have := ZZ.out; simp at e; omega) UU.out (fun jj v hv => ⟨fun k h1 h2 => by have := (W5.out.un jj v hv).lt_ h1; have := UB.out k h2; omega, fun k h1 h2 => by have := (W5.out.un jj v hv).lt_ h2; have := UB.out k h1; omega⟩))
                have HP8 := Lib.hid (show (U ++ [(⟨p, ph, ps, pt, pf, none, .slice none 0 0, .slice none 0 0, .slice none 0 0, newRob (d : Int) charge, [], []⟩ : Un)]).map Un.pl = newW F charge (j + 1) by rw [newW_succ, List.map_append, HPL.out, HD.out]; rfl)
                clear z6 za zb zt zf
                go_wp2_with fail
                go_roundg (nr + 1 - (j + 1))
                case measure => omega
                case rel => exact ⟨j + 1, c7, A7, _, rfl, by go_num, by omega, by rw [List.length_append, HUL.out]; rfl, by first | exact W8.out | exact W8.out.no (Kp.refl _ _).drew | exact W8.out.no ((Kp.refl _ _).drewN _), HP8.out⟩
            · obtain rfl : nr = j := by omega
              have hd1 : ¬ (nr : Int) < (nr : Int) := by omega
              have HF := Lib.hid (show WldP No w pw (newW F charge (robotsP F)) (pods.map fun c => (c, -1)) wr from ⟨_, _, U, WS2.out.low B1.out.kp, by rw [HPL.out, HNR.out]⟩)
              clear hlt
              go_wp2_with fail
              go_ret2
              exact .inr ⟨HE.out, pw, rfl, HF.out⟩
end Go.Proofs.YtfpikgkbccgchaaGreatDoor

namespace Go.Proofs.YtfpikgkbccgchaaGreatDoor
set_option linter.unusedVariables false
set_option linter.unusedSimpArgs false
open Go.RowKit

theorem pktA_lt (n k : Nat) (c p : Int) : ∀ x ∈ pktA n k c p, x < 256 := layL_lt _ _ _
theorem pktA_len (n k : Nat) (c p : Int) (hn : n < 18446744073709551616) : (pktA n k c p).length ≤ 1000000 := Nat.le_trans (layL_len _ _ _ hn) (by decide)
/-- A packet with the next number comes to a robot that has nothing to do. -/
theorem hear_next {R : Rob} {n k : Nat} {c p : Int} (hn : n < 18446744073709551615) (hm : mayA k c p = true) (hh : R.heard + 1 = n) (ha : R.act = none) :
    hearS R (pktA n k c p) = { R with heard := n, act := some (k, c, p), told := if R.on then R.told + 1 else R.told, on := false } ∧ hearB R (pktA n k c p) = layL true n [] := by
  have hx := layA_lt k c p
  obtain ⟨q1, q2, q3, q4⟩ := ack_laid R.heard n (layA k c p) hn (Nat.le_trans (layA_le _ _ _) (by decide)) hx
  have hnx : nxt R.heard = n := by unfold nxt; omega
  obtain ⟨t1, t2, t3, t4⟩ := take_layA hm
  have hf : freshB R.heard (pktA n k c p) = true := by unfold pktA; rw [q2, hnx]; simp; omega
  have hk : ackB R.heard (pktA n k c p) = true := by unfold pktA; rw [q1, hnx]; simp; omega
  have hd : tkD (pktA n k c p) = layA k c p := q4
  have hN : tkN (pktA n k c p) = n := q3
  have ht : takesB R (pktA n k c p) = true := by unfold takesB; rw [hf, ha, hd, t1]; rfl
  constructor
  · unfold hearS
    rw [hf, ht, hd, t2, t3, t4, hnx]
    simp
  · unfold hearB
    rw [hk, hN, if_pos rfl]

theorem rob_ok_of {R : Rob} (h1 : ∀ k c p, R.act = some (k, c, p) → mayA k c p = true) (h2 : R.to_ = -1 ∨ ((∃ p, R.act = some (1, R.to_, p)) ∧ 0 ≤ R.to_)) (h3 : 0 ≤ R.charge) (h4 : R.charge ≤ 9223372036854775807) (h5 : 0 ≤ R.full ∧ R.full ≤ 9223372036854775807)
    (h6 : R.done < 10000) (h7 : R.heard < 10000) (h8 : R.told < 10000) : R.ok := ⟨h1, h2, h3, h4, h5, by omega, by omega, by omega, fun _ => by omega⟩

def S1 : Rob := { newRob 0 9 with heard := 1, act := some (1, 1, 0) }
def S2 : Rob := { newRob 0 9 with heard := 1, act := some (1, 1, 0), charge := 8, to_ := 1 }
def S3 : Rob := { newRob 0 9 with heard := 1, act := none, charge := 8, to_ := -1, cell := 1, done := 1, on := true }
theorem s1_eq : hearS (newRob 0 9) (pktA 1 1 1 0) = S1 := (hear_next (by decide) (by decide) rfl rfl).1
theorem s1_b : hearB (newRob 0 9) (pktA 1 1 1 0) = layL true 1 [] := (hear_next (by decide) (by decide) rfl rfl).2
theorem s2_eq : stepS S1 = S2 ∧ stepB S1 = false := ⟨rfl, rfl⟩
theorem s3_eq : stepS S2 = S3 ∧ stepB S2 = true := ⟨rfl, rfl⟩
theorem s_ok : (newRob 0 9).ok ∧ S1.ok ∧ S2.ok := by
  refine ⟨newRob_ok (by decide) (by decide), ?_, ?_⟩
  · exact rob_ok_of (fun k c p e => by have e : some (1, (1 : Int), (0 : Int)) = some (k, c, p) := e; simp at e; obtain ⟨rfl, rfl, rfl⟩ := e; decide) (.inl rfl) (by decide) (by decide) (by decide) (by decide) (by decide) (by decide)
  · exact rob_ok_of (fun k c p e => by have e : some (1, (1 : Int), (0 : Int)) = some (k, c, p) := e; simp at e; obtain ⟨rfl, rfl, rfl⟩ := e; decide) (.inr ⟨⟨0, rfl⟩, by decide⟩) (by decide) (by decide) (by decide) (by decide) (by decide) (by decide)

theorem ints_lit (w : World) (cs : Array Value) (l : List Int) (hc : cs.toList = IK.encs l) (hm : l.length ≤ 1000) (n : Nat) (hn : n = l.length) : Rd IK (w.alloc (.cells cs 3)) (.slice (some ⟨w.heap.size, 0, none⟩) n n) l :=
  Rd.litAt IK 3 w cs l hc (by unfold maxLen; omega) _ n rfl hn

end Go.Proofs.YtfpikgkbccgchaaGreatDoor

namespace Go.Proofs.YtfpikgkbccgchaaGreatDoor
set_option linter.unusedVariables false
set_option linter.unusedSimpArgs false
open Go.RowKit

def f19 : Flr := ⟨5, 1, ⟨#[48, 97, 97, 98, 49]⟩⟩
theorem f19_right : rightB f19 = true := rightC_ok (W := 5) (H := 1) (by kernel_rfl)
theorem parse_19 : parseP ⟨#[48, 97, 97, 98, 49, 10]⟩ = (f19, 0, 0) := parseP_of (W := 5) (H := 1) (R := [⟨#[48, 97, 97, 98, 49]⟩]) (by kernel_rfl) (by kernel_rfl) (by kernel_rfl) (by kernel_rfl) (by kernel_rfl) (by kernel_rfl)
theorem robots_19 : robotsP f19 = 2 := by unfold robotsP; rw [if_pos f19_right]; decide
theorem dock_190 : dockP f19 0 = some 0 := by unfold dockP; rw [if_pos ⟨f19_right, by decide⟩]; decide
theorem dock_191 : dockP f19 1 = some 4 := by unfold dockP; rw [if_pos ⟨f19_right, by decide⟩]; decide
theorem zone_19 : (zoneP f19 2).isSome = true := by
  unfold zoneP
  rw [if_pos (isB_iff.2 ⟨by decide, by decide, by decide, rightB_iff.1 f19_right⟩)]
  rfl
theorem newE_19 : newE f19 [2] 9 = 0 := by
  unfold newE
  rw [if_neg (by rw [f19_right]; decide), if_neg (by simp), if_pos]
  unfold podsOk
  rw [List.all_eq_true]
  intro x hx
  have : x = 0 := by have := List.mem_range.1 hx; simp at this; omega
  subst this
  unfold podOk1
  show ((zoneP f19 2).isSome && !decide ((2 : Int) ∈ ([2] : List Int).take 0)) = true
  rw [zone_19]; rfl
def W19 (T : List (List Nat)) : List PU := [⟨newRob 0 9, T, []⟩, ⟨newRob 4 9, [], []⟩]
theorem newW_19 : newW f19 9 2 = W19 [] := by
  unfold newW W19
  show [(⟨newRob (((dockP f19 0).getD 0 : Nat) : Int) 9, [], []⟩ : PU), ⟨newRob (((dockP f19 1).getD 0 : Nat) : Int) 9, [], []⟩] = _
  rw [dock_190, dock_191]; rfl
def B19 : List Nat := pktA 1 2 2 0
theorem send_19 : sendP (W19 []) 0 B19 = (W19 [B19], 0) := rfl
theorem hear_19 : hearS (newRob 0 9) B19 = { newRob 0 9 with heard := 1, act := some (2, 2, 0) } ∧ hearB (newRob 0 9) B19 = layL true 1 [] := hear_next (by decide) (by decide) rfl rfl
theorem tkH_19 : ¬ (tkE B19 = 0 ∧ tkH B19 = true) := by
  rintro ⟨_, h⟩
  have h1 := hear_19.2
  unfold hearB at h1
  have hp := layT_pos 1 (by decide)
  have ha : ackB (newRob 0 9).heard B19 = false := by unfold ackB; rw [h]; simp
  rw [ha, if_neg (by decide)] at h1
  rw [← h1] at hp
  simp at hp
def R19 : Rob := { newRob 0 9 with heard := 1, act := some (2, 2, 0) }
def V19 : List PU := [⟨R19, [], [layL true 1 []]⟩, ⟨newRob 4 9, [], []⟩]
theorem deliver_19 : deliverP (W19 [B19]) 0 0 false = (V19, true) := by
  have e : heardU ⟨newRob 0 9, [], []⟩ B19 = ⟨R19, [], [layL true 1 []]⟩ := by
    unfold heardU
    rw [if_neg tkH_19]
    simp only [hear_19.1, hear_19.2]
    rw [if_neg]
    · rfl
    · rintro (h | h)
      · have hp := layT_pos 1 (by decide); rw [h] at hp; simp at hp
      · simp at h
  show ((W19 [B19]).set 0 (heardU ⟨newRob 0 9, [], []⟩ B19), true) = _
  rw [e]; rfl
theorem pod_19 : podP V19 [(2, -1)] 0 = (2, -1, true) := rfl
theorem step_190 : stepP V19 [(2, -1)] 0 = (V19, [(2, -1)], 190) := rfl
theorem step_191 : stepP V19 [(2, -1)] 1 = (V19, [(2, -1)], 2) := rfl
theorem podOk_19 : PodOk V19.length [(2, -1)] := fun x hx => by simp at hx; subst hx; exact .inl rfl
set_option maxHeartbeats 2000000 in
set_option maxRecDepth 100000 in
theorem shown19_any (w : World) : Calls Tryz.prog 8 #[] w fun e w' => e = .returned (.bool true) ∧ Kp No w w' := by
  have PA := Lib.hid (parse_at _ (by decide) _ parse_19 (.tuple #[.agg #[.int .i64 5, .int .i64 1, .string f19.s], .int .i64 0, .int .i64 0]) rfl)
  have NW := Lib.hid (fun (wx : World) pv (hp : Rd IK wx pv [2]) => wnew_any f19 (by decide) hp (fun c hc => by simp at hc; omega) 9 (by decide))
  have e1 : f19.val = .agg #[.int .i64 5, .int .i64 1, .string f19.s] := rfl
  rw [e1] at NW
  simp only [f19] at PA
  obtain ⟨S3, hS3⟩ : ∃ S, S = f19.s := ⟨_, rfl⟩
  rw [show (⟨#[48, 97, 97, 98, 49]⟩ : ByteArray) = S3 from hS3.symm] at PA
  rw [← hS3] at NW
  obtain ⟨F, hF⟩ : ∃ F, F = f19 := ⟨_, rfl⟩
  have HF := Lib.hid hF
  clear hS3 hF
  go_enter Tryz.func8, Tryz.ntmps8
  go_wp2_with fail
  refine (PA.out _).mono ?_
  rintro e w1 ⟨rfl, k1⟩
  have K1 := Lib.hid k1
  clear k1
  go_upto_region 2 with fail
  obtain ⟨w2, hw2⟩ : ∃ y : World, y = w1.alloc (.cells #[.int .i64 5, .int .i64 1, .string S3] 23) := ⟨_, rfl⟩
  rw [← hw2]
  have K2 := Lib.hid (show Kp No w w2 by rw [hw2]; exact K1.out.alloc _)
  have BX := Lib.hid (show w2.heap[w1.heap.size]? = some (.cells #[.int .i64 5, .int .i64 1, .string S3] 23 (0, 0)) by rw [hw2]; exact blk_new w1 _)
  have c0 : w2.cell? ⟨w1.heap.size, 0, none⟩ = some (.int .i64 5) := blk_cell BX.out 0
  have c1 : w2.cell? ⟨w1.heap.size, 1, none⟩ = some (.int .i64 1) := blk_cell BX.out 1
  have c2 : w2.cell? ⟨w1.heap.size, 2, none⟩ = some (.string S3) := blk_cell BX.out 2
  have NX := Lib.hid (NW.out (w2.alloc (.cells #[.int .i64 2] 3)) (.slice (some ⟨w2.heap.size, 0, none⟩) 1 1) (Rd.litAt IK 3 w2 _ [2] rfl (by unfold maxLen; simp) _ _ rfl rfl))
  clear hw2
  go_wp2_with fail
  refine NX.out.mono ?_
  rintro e w3 (⟨h, _⟩ | ⟨_, pw, rfl, ws⟩)
  · exact absurd newE_19 h
  rw [robots_19, newW_19] at ws
  have W3 := Lib.hid (show WldP No w pw (W19 []) [(2, -1)] w3 from ws.low (K2.out.alloc _))
  clear ws c0 c1 c2
  go_wp2_with fail
  refine (packet19_any 1 2 2 0 (by decide) (by decide) w3 _ rfl).mono ?_
  rintro e w4 ⟨v4, rfl, n4⟩
  obtain ⟨A4, q4, hv4⟩ := n4.own.rd.shape
  obtain ⟨l4, hl4⟩ : ∃ z, z = (pktA 1 2 2 0).length := ⟨_, rfl⟩
  rw [← hl4] at hv4
  subst hv4
  have W4 := Lib.hid (W3.out.no n4.kp)
  have R4 := Lib.hid (show Rd BK w4 (.slice A4 l4 q4) B19 from n4.own.rd)
  have SE := Lib.hid (wsend_any W4.out 0 R4.out (pktA_len 1 2 2 0 (by decide)) (pktA_lt 1 2 2 0))
  rw [send_19] at SE
  clear n4 hl4
  go_wp2_with fail
  refine SE.out.mono ?_
  rintro e w5 ⟨rfl, h5⟩
  have DE := Lib.hid (wdeliver_any h5 0 0 (by decide) false)
  rw [deliver_19] at DE
  clear h5
  go_wp2_with fail
  refine DE.out.mono ?_
  rintro e w6 ⟨rfl, h6⟩
  have W6 := Lib.hid h6
  have PO := Lib.hid (wpod_any h6 podOk_19 0)
  rw [pod_19] at PO
  clear h6
  go_wp2_with fail
  refine PO.out.mono ?_
  rintro e w7 ⟨rfl, k7⟩
  have S1 := Lib.hid (wstep_any (W6.out.no k7) 0)
  rw [step_190] at S1
  clear k7
  go_wp2_with fail
  refine S1.out.mono ?_
  rintro e w8 ⟨rfl, h8⟩
  have S2 := Lib.hid (wstep_any h8 1)
  rw [step_191] at S2
  clear h8
  go_wp2_with fail
  refine S2.out.mono ?_
  rintro e w9 ⟨rfl, h9⟩
  have K9 := Lib.hid h9.kp
  clear h9
  go_wp2_with fail
  go_ret
  exact ⟨rfl, K9.out⟩
end Go.Proofs.YtfpikgkbccgchaaGreatDoor

namespace Go.Proofs.YtfpikgkbccgchaaGreatDoor
set_option linter.unusedVariables false
set_option linter.unusedSimpArgs false
open Go.RowKit

set_option maxRecDepth 100000 in
theorem wunder_nil (w : World) (i : Int) : Calls Tryz.prog 20 #[.pointer none, .int .i64 i] w fun e w' => e = .returned (.tuple #[.int .i64 0, .int .i64 0]) ∧ Kp No w w' := by
  have UN := Lib.hid (unit_nil w i)
  unfold ptrV at UN
  simp only at UN
  go_enter Tryz.func20, Tryz.ntmps20
  go_wp2_with fail
  refine UN.out.mono ?_
  rintro e w1 ⟨rfl, k1⟩
  have K1 := Lib.hid k1
  clear k1
  go_upto_region 2 with fail
  obtain ⟨w2, hw2⟩ : ∃ y : World, y = w1.alloc (.cells #[.pointer none, .pointer none, .pointer none] 89) := ⟨_, rfl⟩
  rw [← hw2]
  have BX := Lib.hid (show w2.heap[w1.heap.size]? = some (.cells #[.pointer none, .pointer none, .pointer none] 89 (0, 0)) by rw [hw2]; exact blk_new w1 _)
  have K2 := Lib.hid (show Kp No w w2 by rw [hw2]; exact K1.out.alloc _)
  have LB := Lib.hid (fun wx (hk : Kp No w2 wx) => show wx.cell? ⟨w1.heap.size, 0, none⟩ = some (.pointer none) ∧ wx.cell? ⟨w1.heap.size, 1, none⟩ = some (.pointer none) ∧ wx.cell? ⟨w1.heap.size, 2, none⟩ = some (.pointer none) from ⟨blk_cell (hk.blk BX.out (no_no _)) 0, blk_cell (hk.blk BX.out (no_no _)) 1, blk_cell (hk.blk BX.out (no_no _)) 2⟩)
  clear hw2
  obtain ⟨q0, q1, q2⟩ := LB.out w2.drew (Kp.refl _ _).drew
  go_region_held3 (fun w' => w'.cell? ⟨w1.heap.size, 1, none⟩ = some (.pointer none) ∧ w'.cell? ⟨w1.heap.size, 2, none⟩ = some (.pointer none))
    (first | exact ⟨by assumption, by assumption⟩ | exact ⟨q1, q2⟩)
    (first
      | (go_at_call 57; refine (len_kn w3).mono ?_; rintro e w4 ⟨rfl, k4⟩; have K4 := Lib.hid (K3.out.no k4); obtain ⟨_, r1, r2⟩ := LB.out w4 K4.out; clear k4)
      | (go_at_call 57; refine (len_kn w2.drew).mono ?_; rintro e w3 ⟨rfl, k3⟩; have K3 := Lib.hid ((Kp.refl No w2).drew.no k3); obtain ⟨_, s1, s2⟩ := LB.out w3 K3.out; clear k3))
  go_wp2_with fail
  go_ret2
  exact ⟨rfl, K2.out.no (K4.out.no ((Kp.refl No _).drewN 0))⟩
set_option maxRecDepth 100000 in
theorem wcharge_nil (w : World) (i : Int) : Calls Tryz.prog 26 #[.pointer none, .int .i64 i] w fun e w' => e = .returned (.int .i64 0) ∧ Kp No w w' := by
  have UN := Lib.hid (unit_nil w i)
  unfold ptrV at UN
  simp only at UN
  have hf0 := fld0 (.pointer none) (.pointer none) (.pointer none)
  go_enter Tryz.func26, Tryz.ntmps26
  go_wp2_with fail
  refine UN.out.mono ?_
  rintro e w1 ⟨rfl, k1⟩
  have K1 := Lib.hid k1
  clear k1
  go_wp2_with fail
  refine (charge_nil w1).mono ?_
  rintro e w2 ⟨rfl, rfl⟩
  go_wp2_with fail
  go_ret
  exact ⟨rfl, K1.out⟩
set_option maxRecDepth 100000 in
theorem wdone_nil (w : World) (i : Int) : Calls Tryz.prog 27 #[.pointer none, .int .i64 i] w fun e w' => e = .returned (.int .u64 0) ∧ Kp No w w' := by
  have UN := Lib.hid (unit_nil w i)
  unfold ptrV at UN
  simp only at UN
  have hf0 := fld0 (.pointer none) (.pointer none) (.pointer none)
  go_enter Tryz.func27, Tryz.ntmps27
  go_wp2_with fail
  refine UN.out.mono ?_
  rintro e w1 ⟨rfl, k1⟩
  have K1 := Lib.hid k1
  clear k1
  go_wp2_with fail
  refine (done_nil w1).mono ?_
  rintro e w2 ⟨rfl, rfl⟩
  go_wp2_with fail
  go_ret
  exact ⟨rfl, K1.out⟩
set_option maxRecDepth 100000 in
theorem wcells_nil (w : World) (i : Int) : Calls Tryz.prog 17 #[.pointer none, .int .i64 i] w fun e w' => e = .returned (.slice none 0 0) ∧ Kp No w w' := by
  have UN := Lib.hid (unit_nil w i)
  unfold ptrV at UN
  simp only at UN
  have hf0 := fld0 (.pointer none) (.pointer none) (.pointer none)
  go_enter Tryz.func17, Tryz.ntmps17
  go_wp2_with fail
  refine UN.out.mono ?_
  rintro e w1 ⟨rfl, k1⟩
  have K1 := Lib.hid k1
  clear k1
  go_wp2_with fail
  refine (cells_nil w1).mono ?_
  rintro e w2 ⟨rfl, rfl⟩
  go_wp2_with fail
  go_ret
  exact ⟨rfl, K1.out⟩
/-- An act of carfaxlaw19. -/
structure A19 where
  k : Nat
  rb : Int
  xk : Nat
  xc : Int
  xp : Int
  s : SlH
  at_ : Int
  kp : Bool
def A19.cs (x : A19) : Array Value := #[.int .u8 (x.k : Int), .int .i64 x.rb, .int .u8 (x.xk : Int), .int .i64 x.xc, .int .i64 x.xp, x.s.val, .int .i64 x.at_, .bool x.kp]
def A19.val (x : A19) : Value := .agg x.cs
set_option maxHeartbeats 2000000 in
set_option maxRecDepth 100000 in
theorem nil19_row (x : A19) (w : World) : Calls Tryz.prog 6 #[x.val] w fun e w' => e = .returned (.bool true) ∧ Kp No w w' := by
  obtain ⟨k, rb, xk, xc, xp, ⟨sA, sc, sb⟩, at_, kp⟩ := x
  unfold A19.val A19.cs SlH.val
  simp only
  obtain ⟨n, hn⟩ : ∃ z, z = sb.length := ⟨_, rfl⟩
  rw [← hn]
  clear hn
  obtain ⟨w1, hw1⟩ : ∃ y : World, y = w.alloc (.cells #[.int .u8 (k : Int), .int .i64 rb, .int .u8 (xk : Int), .int .i64 xc, .int .i64 xp, .slice sA n sc, .int .i64 at_, .bool kp] 43) := ⟨_, rfl⟩
  have BX := Lib.hid (show w1.heap[w.heap.size]? = some (.cells #[.int .u8 (k : Int), .int .i64 rb, .int .u8 (xk : Int), .int .i64 xc, .int .i64 xp, .slice sA n sc, .int .i64 at_, .bool kp] 43 (0, 0)) by rw [hw1]; exact blk_new w _)
  have K1 := Lib.hid (show Kp No w w1 by rw [hw1]; exact (Kp.refl _ _).alloc _)
  have HW1 := Lib.hid hw1
  have LB := Lib.hid (fun wx (hk : Kp No w1 wx) => show wx.cell? ⟨w.heap.size, 1, none⟩ = some (.int .i64 rb) ∧ wx.cell? ⟨w.heap.size, 5, none⟩ = some (.slice sA n sc) ∧ wx.cell? ⟨w.heap.size, 6, none⟩ = some (.int .i64 at_) ∧ wx.cell? ⟨w.heap.size, 7, none⟩ = some (.bool kp) from ⟨blk_cell (hk.blk BX.out (no_no _)) 1, blk_cell (hk.blk BX.out (no_no _)) 5, blk_cell (hk.blk BX.out (no_no _)) 6, blk_cell (hk.blk BX.out (no_no _)) 7⟩)
  clear hw1
  go_enter Tryz.func6, Tryz.ntmps6
  go_upto_region 1 with fail
  rw [← HW1.out]
  go_wp2_with fail
  refine (shown19_any w1).mono ?_
  rintro e w2 ⟨rfl, k2⟩
  have K2 := Lib.hid k2
  clear k2
  obtain ⟨c1, c5, c6, c7⟩ := LB.out w2 K2.out
  go_wp2_with fail
  refine (wfetch_nil w2 rb at_ kp).mono ?_
  rintro e w3 ⟨rfl, k3⟩
  have K3 := Lib.hid (K2.out.no k3)
  clear k3 c1 c5 c6 c7
  obtain ⟨c1, c5, c6, c7⟩ := LB.out w3 K3.out
  go_wp2_with fail
  refine (wunder_nil w3 rb).mono ?_
  rintro e w4 ⟨rfl, k4⟩
  have K4 := Lib.hid (K3.out.no k4)
  clear k4 c1 c5 c6 c7
  obtain ⟨c1, c5, c6, c7⟩ := LB.out w4 K4.out
  go_wp2_with fail
  refine (wpod_nil w4 at_).mono ?_
  rintro e w5 ⟨rfl, k5⟩
  have K5 := Lib.hid (K4.out.no k5)
  clear k5 c1 c5 c6 c7
  obtain ⟨c1, c5, c6, c7⟩ := LB.out w5 K5.out
  go_wp2_with fail
  refine (wsend_nil w5 rb _).mono ?_
  rintro e w6 ⟨rfl, k6⟩
  have K6 := Lib.hid (K5.out.no k6)
  clear k6 c1 c5 c6 c7
  obtain ⟨c1, c5, c6, c7⟩ := LB.out w6 K6.out
  go_wp2_with fail
  refine (wdeliver_nil w6 rb at_ kp).mono ?_
  rintro e w7 ⟨rfl, k7⟩
  have K7 := Lib.hid (K6.out.no k7)
  clear k7 c1 c5 c6 c7
  obtain ⟨c1, c5, c6, c7⟩ := LB.out w7 K7.out
  go_wp2_with fail
  refine (wstep_nil w7 rb).mono ?_
  rintro e w8 ⟨rfl, k8⟩
  have K8 := Lib.hid (K7.out.no k8)
  clear k8 c1 c5 c6 c7
  obtain ⟨c1, c5, c6, c7⟩ := LB.out w8 K8.out
  go_wp2_with fail
  refine (wtell_nil w8 rb).mono ?_
  rintro e w9 ⟨rfl, k9⟩
  have K9 := Lib.hid (K8.out.no k9)
  clear k9 c1 c5 c6 c7
  obtain ⟨c1, c5, c6, c7⟩ := LB.out w9 K9.out
  go_wp2_with fail
  refine (wlose_nil w9 rb kp at_).mono ?_
  rintro e w10 ⟨rfl, k10⟩
  have K10 := Lib.hid (K9.out.no k10)
  clear k10 c1 c5 c6 c7
  obtain ⟨c1, c5, c6, c7⟩ := LB.out w10 K10.out
  go_wp2_with fail
  refine (wcells_nil w10 rb).mono ?_
  rintro e w11 ⟨rfl, k11⟩
  have K11 := Lib.hid (K10.out.no k11)
  clear k11 c1 c5 c6 c7
  obtain ⟨c1, c5, c6, c7⟩ := LB.out w11 K11.out
  go_wp2_with fail
  refine (wcharge_nil w11 rb).mono ?_
  rintro e w12 ⟨rfl, k12⟩
  have K12 := Lib.hid (K11.out.no k12)
  clear k12 c1 c5 c6 c7
  obtain ⟨c1, c5, c6, c7⟩ := LB.out w12 K12.out
  go_wp2_with fail
  refine (wdone_nil w12 rb).mono ?_
  rintro e w13 ⟨rfl, k13⟩
  have K13 := Lib.hid (K12.out.no k13)
  clear k13 c1 c5 c6 c7
  go_wp2_with fail
  go_ret
  exact ⟨rfl, K1.out.no K13.out⟩
end Go.Proofs.YtfpikgkbccgchaaGreatDoor

namespace Go.Proofs.YtfpikgkbccgchaaGreatDoor
set_option linter.unusedVariables false
set_option linter.unusedSimpArgs false
open Go.ChangeShapes Go.WideShapes Go.ChangeAt Go.RowKit Go.Joins

section
variable {H : Type} {enc : TypeId × Value → H} {w : World} {base : Nat} {spare : Nat → Bool} {held : Bool}
set_option maxRecDepth 100000 in
theorem open_floor {v : Value} {d : DataW H} {p : List MemPlace} {r : Reach} {b0 : Nat} (hv : Value.okWide Tryz.prog w r b0 23 v) (h : DataW.Trod enc Tryz.prog w base spare held 23 v d p) :
    ∃ f : Flr, v = f.val ∧ f.s.size ≤ 9223372036854775807 := by
  obtain ⟨v0, v1, v2, y0, y1, y2, n, rfl, _, _, h0, h1, h2⟩ := open_agg3 Tryz.underlying23 (by kernel_rfl) (by kernel_rfl) hv h
  obtain ⟨a, e0, _, _⟩ := DataW.trod_int Tryz.underlying3 h0
  obtain ⟨b, e1, _, _⟩ := DataW.trod_int Tryz.underlying3 h1
  obtain ⟨s, e2, _, hs⟩ := DataW.trod_string Tryz.underlying9 h2
  simp at e0 e1 e2
  subst e0 e1 e2
  exact ⟨⟨a, b, s⟩, rfl, hs⟩
end
end Go.Proofs.YtfpikgkbccgchaaGreatDoor

namespace Go.Proofs.YtfpikgkbccgchaaGreatDoor
set_option linter.unusedVariables false
set_option linter.unusedSimpArgs false
open Go.ChangeShapes Go.WideShapes Go.ChangeAt Go.RowKit Go.Joins
section
variable {H : Type} {enc : TypeId × Value → H} {w : World} {base : Nat} {spare : Nat → Bool} {held : Bool}
theorem int_dec {n : Nat} {cs : List Value} {y : DataW H × List MemPlace} (h : DataW.trod enc Tryz.prog w base spare held n 3 cs = some y) : ∃ x : Int, cs = IK.enc x ∧ True := by
  obtain ⟨k, e0, _, wk⟩ := DataW.trod_int Tryz.underlying3 h
  exact ⟨k, by rw [e0]; rfl, trivial⟩
theorem RdA.rd' {α : Type} {K : Kd α} {w : World} {A : Option Addr} {cap : Nat} {l : List α} (h : RdA K w (.slice A l.length cap) l) (h3 : l.length ≤ cap) (h4 : cap ≤ maxLen) : Rd K w (.slice A l.length cap) l := by
  obtain ⟨A', cap', e, hi⟩ := h
  simp only [Value.slice.injEq] at e
  obtain ⟨rfl, _, rfl⟩ := e
  by_cases h0 : l = []
  · subst h0; exact .inl ⟨⟨A, cap, rfl⟩, rfl⟩
  · obtain ⟨x, hx⟩ : ∃ x, l[0]? = some x := ⟨_, List.getElem?_eq_getElem (by cases l with | nil => exact absurd rfl h0 | cons _ _ => simp)⟩
    obtain ⟨g, o, rfl, _⟩ := hi 0 x hx
    refine .inr ⟨g, o, cap, rfl, h3, h4, fun j u hu => ?_⟩
    have hjl : j < l.length * K.sz := by rw [← K.length_encs]; exact (List.getElem?_eq_some_iff.1 hu).1
    have hp := K.pos
    have hq : j / K.sz < l.length := Nat.div_lt_of_lt_mul (by rw [Nat.mul_comm]; exact hjl)
    obtain ⟨y, hy⟩ : ∃ y, l[j / K.sz]? = some y := ⟨_, List.getElem?_eq_getElem hq⟩
    obtain ⟨g', o', e2, hc⟩ := hi _ y hy
    simp only [Option.some.injEq, Addr.mk.injEq] at e2
    obtain ⟨rfl, rfl, _⟩ := e2
    have hm : j % K.sz < K.sz := Nat.mod_lt _ hp
    have he := K.encs_get l (j / K.sz) (j % K.sz) y hy hm
    have hj : j / K.sz * K.sz + j % K.sz = j := Nat.div_add_mod' j K.sz
    rw [hj, hu] at he
    have := hc _ u he.symm
    rw [Nat.add_assoc, hj] at this
    exact this
set_option maxRecDepth 100000 in
theorem open_ints {v : Value} {d : DataW H} {p : List MemPlace} {r : Reach} {b0 : Nat} (hv : Value.okWide Tryz.prog w r b0 24 v) (h : DataW.Trod enc Tryz.prog w base spare held 24 v d p) : ∃ l : List Int, Rd IK w v l := by
  obtain ⟨a0, len, cap, rfl⟩ := okWide_slice Tryz.underlying24 hv
  obtain ⟨fuel, hf⟩ := h
  obtain ⟨l, h1, h2, A, cap, e, h3, h4⟩ := open_rows (K := IK) (fun _ : Int => True) Tryz.underlying24 (by kernel_rfl) (fun n cs' y hy => int_dec hy) hf
  rw [e] at h1 ⊢
  exact ⟨l, h1.rd' h3 h4⟩
end
end Go.Proofs.YtfpikgkbccgchaaGreatDoor

namespace Go.Proofs.YtfpikgkbccgchaaGreatDoor
set_option linter.unusedVariables false
set_option linter.unusedSimpArgs false
open Go.ChangeShapes Go.WideShapes Go.ChangeAt Go.RowKit Go.Joins

def WK19 : Kd A19 := { sz := 8, enc := fun x => x.cs.toList, len := fun _ => rfl, one := by intro a v hv; simp [A19.cs] at hv; rcases hv with rfl | rfl | rfl | rfl | rfl | rfl | rfl | rfl <;> rfl, pos := by decide }
structure A19.ok (w : World) (x : A19) : Prop where
  s : x.s.ok w
  k : x.k < 256
  xk : x.xk < 256
  at_ : (Lit.int .i64 x.at_).wf = true
section
variable {H : Type} {enc : TypeId × Value → H} {w : World} {base : Nat} {spare : Nat → Bool} {held : Bool}
set_option maxRecDepth 100000 in
theorem act3_dec {n : Nat} {cs : List Value} {y : DataW H × List MemPlace} (h : DataW.trod enc Tryz.prog w base spare held n 40 cs = some y) : ∃ (k : Nat) (c p : Int), cs = [.int .u8 (k : Int), .int .i64 c, .int .i64 p] ∧ k < 256 := by
  obtain ⟨ys, n', rfl, hy, hlen, hyl, hf⟩ := DataW.trod_struct Tryz.underlying40 h
  have hc : Tryz.prog.cellsOf 40 = 3 := by kernel_rfl
  have hu : Tryz.prog.cellsOf 5 = 1 := by kernel_rfl
  have hi : Tryz.prog.cellsOf 3 = 1 := by kernel_rfl
  rw [hc] at hlen
  match cs, hlen with
  | [c0, c1, c2], _ =>
    match ys, hyl with
    | [y0, y1, y2], _ =>
      have h0 := hf 0 _ rfl
      have h1 := hf 1 _ rfl
      have h2 := hf 2 _ rfl
      simp [hu, hi] at h0 h1 h2
      obtain ⟨k, e0, _, wk⟩ := DataW.trod_int Tryz.underlying5 h0
      obtain ⟨c, e1, _, _⟩ := DataW.trod_int Tryz.underlying3 h1
      obtain ⟨p, e2, _, _⟩ := DataW.trod_int Tryz.underlying3 h2
      have hk := bounds_u8 wk
      simp at e0 e1 e2
      refine ⟨k.toNat, c, p, ?_, by omega⟩
      rw [e0, e1, e2, Int.toNat_of_nonneg hk.1]
set_option maxRecDepth 100000 in
theorem act19_dec {n : Nat} {cs : List Value} {y : DataW H × List MemPlace} (h : DataW.trod enc Tryz.prog w base spare held n 43 cs = some y) : ∃ x : A19, cs = WK19.enc x ∧ x.ok w := by
  obtain ⟨ys, n', rfl, hy, hlen, hyl, hf⟩ := DataW.trod_struct Tryz.underlying43 h
  have hc : Tryz.prog.cellsOf 43 = 8 := by kernel_rfl
  have hu : Tryz.prog.cellsOf 5 = 1 := by kernel_rfl
  have ha : Tryz.prog.cellsOf 40 = 3 := by kernel_rfl
  have hi : Tryz.prog.cellsOf 3 = 1 := by kernel_rfl
  have hb : Tryz.prog.cellsOf 41 = 1 := by kernel_rfl
  have ho : Tryz.prog.cellsOf 4 = 1 := by kernel_rfl
  rw [hc] at hlen
  match cs, hlen with
  | [c0, c1, c2, c3, c4, c5, c6, c7], _ =>
    match ys, hyl with
    | [y0, y1, y2, y3, y4, y5], _ =>
      have h0 := hf 0 _ rfl
      have h1 := hf 1 _ rfl
      have h2 := hf 2 _ rfl
      have h3 := hf 3 _ rfl
      have h4 := hf 4 _ rfl
      have h5 := hf 5 _ rfl
      simp [hu, ha, hi, hb, ho] at h0 h1 h2 h3 h4 h5
      obtain ⟨k, e0, _, wk⟩ := DataW.trod_int Tryz.underlying5 h0
      obtain ⟨rb, e1, _, _⟩ := DataW.trod_int Tryz.underlying3 h1
      obtain ⟨xk, xc, xp, e2, wx⟩ := act3_dec h2
      obtain ⟨x, e3, ok⟩ := slh_dec h3
      obtain ⟨at_, e4, _, wa⟩ := DataW.trod_int Tryz.underlying3 h4
      obtain ⟨kp, e5⟩ : ∃ b : Bool, [c7] = [Value.bool b] := by
        obtain ⟨b, e, _⟩ := DataW.trod_bool Tryz.underlying4 h5
        exact ⟨b, e⟩
      have hk := bounds_u8 wk
      simp at e0 e1 e2 e4 e5
      have e3' : c5 = x.val := by simpa [SHK] using e3
      obtain ⟨rfl, rfl, rfl⟩ := e2
      refine ⟨⟨k.toNat, rb, xk, xc, xp, x, at_, kp⟩, ?_, ⟨ok, by show k.toNat < 256; omega, wx, wa⟩⟩
      rw [e0, e1, e3', e4, e5]
      show [Value.int .u8 k, .int .i64 rb, .int .u8 (xk : Int), .int .i64 xc, .int .i64 xp, x.val, .int .i64 at_, .bool kp] = [Value.int .u8 ((k.toNat : Nat) : Int), .int .i64 rb, .int .u8 (xk : Int), .int .i64 xc, .int .i64 xp, x.val, .int .i64 at_, .bool kp]
      rw [Int.toNat_of_nonneg hk.1]
set_option maxRecDepth 100000 in
theorem open_act19 {v : Value} {d : DataW H} {p : List MemPlace} {r : Reach} {b0 : Nat} (hv : Value.okWide Tryz.prog w r b0 43 v) (h : DataW.Trod enc Tryz.prog w base spare held 43 v d p) : ∃ x : A19, v = x.val ∧ x.ok w := by
  obtain ⟨cs, rfl, hsz⟩ := okWide_struct Tryz.underlying43 hv
  obtain ⟨fuel, hf0⟩ := h
  have hf1 : DataW.trod enc Tryz.prog w base spare held fuel 43 cs.toList = some (d, p) := hf0
  obtain ⟨x, e, ok⟩ := act19_dec hf1
  refine ⟨x, ?_, ok⟩
  have : cs = x.cs := by
    have h1 : cs.toList = x.cs.toList := e
    have := congrArg List.toArray h1
    simpa using this
  rw [this]; rfl
set_option maxRecDepth 100000 in
theorem open_acts19 {v : Value} {d : DataW H} {p : List MemPlace} {r : Reach} {b0 : Nat} (hv : Value.okWide Tryz.prog w r b0 35 v) (h : DataW.Trod enc Tryz.prog w base spare held 35 v d p) : ∃ l : List A19, Rd WK19 w v l ∧ ∀ x ∈ l, x.ok w := by
  obtain ⟨a0, len, cap, rfl⟩ := okWide_slice Tryz.underlying35 hv
  obtain ⟨fuel, hf⟩ := h
  obtain ⟨l, h1, h2, A, cap', hv', h3, h4⟩ := open_rows (K := WK19) (A19.ok w) Tryz.underlying35 (by kernel_rfl) (fun n cs' y hy => act19_dec hy) hf
  simp only [Value.slice.injEq] at hv'
  obtain ⟨rfl, rfl, rfl⟩ := hv'
  exact ⟨l, h1.rd h3 h4, h2⟩
end
end Go.Proofs.YtfpikgkbccgchaaGreatDoor
