/- The library's functions at this program: strings.Split, strings.Join and others, as the shelf lays them (written by the kit's tool; what is not wanted is left out); trip: Zones; path, plain: the search by levels. No function of the program; trip: Make, plain; an act is appended; trip: Make; trip: Make, where it makes; trip, plain: what was made is a way, and is right. No function of the program; trip, plain: what was made is right; what is left of right acts is right. No function of the program; trip, plain: where a made trip goes, what it costs, what is lifted and dropped. No function of the program; trip, plain: zones of a rest; costs of parts. No function of the program; trip, plain: zones in order, each once. No function of the program; path, plain: ways reckoned by hand. No function of the program; The floor of carfaxlaw10.shown (written by bin/gen_trs.py); trip: Make at all; carfaxref10.Same; carfaxlaw10: small, shown; carfaxref10: gos, Cost. No condition. -/
import Derived.Shelf.Strings.OnBuilder
import Derived.Shelf.Strings.Split
import Derived.Shelf.Sort.Plain
import Derived.Shelf.Slices.CompactI
import Derived.Shelf.Slices.In.SortNone
import Derived.Test.YtmipnicdlldjnaaGreatDoorProg
import Derived.Test.YtmipnicdlldjnaaGreatDoorM6
import Derived.Test.YtmipnicdlldjnaaGreatDoorM4
import Derived.Test.YtmipnicdlldjnaaGreatDoorM5
import Derived.Test.YtmipnicdlldjnaaGreatDoorM3

namespace Go.Proofs
open Go.Shelf
def Tryz.lays189_ren : Go.Shelf.Ren := ⟨fun | 189 => 28 | 125 => 49 | 257 => 48 | 128 => 76 | 129 => 77 | 294 => 67 | 295 => 68 | 296 => 69 | 297 => 70 | 298 => 71 | 299 => 72 | 216 => 73 | 300 => 74 | 301 => 75 | 328 => 88 | 329 => 89 | 330 => 90 | 331 => 91 | 332 => 92 | 215 => 93 | 343 => 104 | n => n, fun | 28 => 24 | 3 => 3 | 46 => 83 | 0 => 0 | 51 => 121 | 53 => 123 | 4 => 4 | 183 => 114 | 182 => 113 | 131 => 42 | 5 => 5 | 9 => 9 | 218 => 138 | 222 => 142 | 228 => 158 | 229 => 159 | n => n, fun | n => n⟩
theorem Tryz.lays189 : Go.Proofs.Lays.n189 Tryz.prog Tryz.lays189_ren := {
  mixed := by kernel_rfl
  f125 := Tryz.func49.trans (congrArg some (by kernel_rfl))
  f128 := Tryz.func76.trans (congrArg some (by kernel_rfl))
  f129 := Tryz.func77.trans (congrArg some (by kernel_rfl))
  f189 := Tryz.func28.trans (congrArg some (by kernel_rfl))
  f215 := Tryz.func93.trans (congrArg some (by kernel_rfl))
  f216 := Tryz.func73.trans (congrArg some (by kernel_rfl))
  f257 := Tryz.func48.trans (congrArg some (by kernel_rfl))
  f294 := Tryz.func67.trans (congrArg some (by kernel_rfl))
  f295 := Tryz.func68.trans (congrArg some (by kernel_rfl))
  f296 := Tryz.func69.trans (congrArg some (by kernel_rfl))
  f297 := Tryz.func70.trans (congrArg some (by kernel_rfl))
  f298 := Tryz.func71.trans (congrArg some (by kernel_rfl))
  f299 := Tryz.func72.trans (congrArg some (by kernel_rfl))
  f300 := Tryz.func74.trans (congrArg some (by kernel_rfl))
  f301 := Tryz.func75.trans (congrArg some (by kernel_rfl))
  f328 := Tryz.func88.trans (congrArg some (by kernel_rfl))
  f329 := Tryz.func89.trans (congrArg some (by kernel_rfl))
  f330 := Tryz.func90.trans (congrArg some (by kernel_rfl))
  f331 := Tryz.func91.trans (congrArg some (by kernel_rfl))
  f332 := Tryz.func92.trans (congrArg some (by kernel_rfl))
  f343 := Tryz.func104.trans (congrArg some (by kernel_rfl))
  t0 := Tryz.underlying0
  a0 := Tryz.isAgg0
  z0 := Tryz.sizeOf0
  v0 := Tryz.zeroValue0
  t3 := Tryz.underlying3
  a3 := Tryz.isAgg3
  z3 := Tryz.sizeOf3
  v3 := Tryz.zeroValue3
  t4 := Tryz.underlying4
  a4 := Tryz.isAgg4
  z4 := Tryz.sizeOf4
  v4 := Tryz.zeroValue4
  t5 := Tryz.underlying5
  a5 := Tryz.isAgg5
  z5 := Tryz.sizeOf5
  v5 := Tryz.zeroValue5
  t9 := Tryz.underlying9
  a9 := Tryz.isAgg9
  z9 := Tryz.sizeOf9
  v9 := Tryz.zeroValue9
  t28 := Tryz.underlying24
  a28 := Tryz.isAgg24
  z28 := Tryz.sizeOf24
  v28 := Tryz.zeroValue24
  t46 := Tryz.underlying83
  a46 := Tryz.isAgg83
  z46 := Tryz.sizeOf83
  v46 := Tryz.zeroValue83
  t51 := Tryz.underlying121
  a51 := Tryz.isAgg121
  z51 := Tryz.sizeOf121
  v51 := Tryz.zeroValue121
  t53 := Tryz.underlying123
  a53 := Tryz.isAgg123
  z53 := Tryz.sizeOf123
  v53 := Tryz.zeroValue123
  t131 := Tryz.underlying42
  a131 := Tryz.isAgg42
  z131 := Tryz.sizeOf42
  v131 := Tryz.zeroValue42
  t182 := Tryz.underlying113
  a182 := Tryz.isAgg113
  z182 := Tryz.sizeOf113
  v182 := Tryz.zeroValue113
  t183 := Tryz.underlying114
  a183 := Tryz.isAgg114
  z183 := Tryz.sizeOf114
  v183 := Tryz.zeroValue114
  t218 := Tryz.underlying138
  a218 := Tryz.isAgg138
  z218 := Tryz.sizeOf138
  v218 := Tryz.zeroValue138
  t222 := Tryz.underlying142
  a222 := Tryz.isAgg142
  z222 := Tryz.sizeOf142
  v222 := Tryz.zeroValue142
  t228 := Tryz.underlying158
  a228 := Tryz.isAgg158
  z228 := Tryz.sizeOf158
  v228 := Tryz.zeroValue158
  t229 := Tryz.underlying159
  a229 := Tryz.isAgg159
  z229 := Tryz.sizeOf159
  v229 := Tryz.zeroValue159 }
open Go.Sort Go.RowKit in
theorem Tryz.slices_Sort_int (blk off cap : Nat) (zs : List Int) (w : World) (hH : Holds (Value.int .i64) w blk off zs.toArray) (hblk : blk < w.heap.size) (hsz : zs.length < 4611686018427387904) :
    Calls Tryz.prog 28 #[.slice (some ⟨blk, off, none⟩) zs.length cap] w fun e w' =>
      e = .returned (.tuple #[]) ∧ ∃ n os, w' = grow (putRow (Value.int .i64) (Sort.ahead w n) blk off (zs.mergeSort fun x y => decide (x ≤ y)).toArray) os := Any.slices_Sort_int Tryz.lays189 blk off cap zs w hH hblk hsz
def Tryz.laysNm220_ren : Go.Shelf.Ren := ⟨fun | 20 => 29 | n => n, fun | 22 => 24 | 3 => 3 | 4 => 4 | 0 => 0 | n => n, fun | n => n⟩
theorem Tryz.laysNm220 : Go.Proofs.Lays2.n20 Tryz.prog Tryz.laysNm220_ren := {
  mixed := by kernel_rfl
  f20 := Tryz.func29.trans (congrArg some (by kernel_rfl))
  t0 := Tryz.underlying0
  a0 := Tryz.isAgg0
  z0 := Tryz.sizeOf0
  v0 := Tryz.zeroValue0
  t3 := Tryz.underlying3
  a3 := Tryz.isAgg3
  z3 := Tryz.sizeOf3
  v3 := Tryz.zeroValue3
  t4 := Tryz.underlying4
  a4 := Tryz.isAgg4
  z4 := Tryz.sizeOf4
  v4 := Tryz.zeroValue4
  t22 := Tryz.underlying24
  a22 := Tryz.isAgg24
  z22 := Tryz.sizeOf24
  v22 := Tryz.zeroValue24
  i3 := by kernel_rfl }
open Go.RowKit Go.Lib Go.Sort in
theorem Tryz.slices_Compact_int (blk off cap : Nat) (zs : List Int) (w : World) (hH : Holds (Value.int .i64) w blk off zs.toArray) (hsz : zs.length ≤ 9223372036854775807) (hcap : zs.length ≤ cap) :
    Calls Tryz.prog 29 #[.slice (some ⟨blk, off, none⟩) zs.length cap] w fun e w' => e = .returned (.slice (some ⟨blk, off, none⟩) (Lib.compact zs).length cap) ∧ ∃ q, w' = putRow (Value.int .i64) (Sort.ahead w q) blk off (Lib.compact zs ++ List.replicate (zs.length - (Lib.compact zs).length) 0).toArray := Any.slices_Compact_int Tryz.laysNm220 blk off cap zs w hH hsz hcap
open Go.RowKit Go.Lib Go.Sort in
theorem Tryz.slices_Compact_int_empty (a : Option Addr) (cap : Nat) (w : World) :
    Calls Tryz.prog 29 #[.slice a 0 cap] w fun e w' => e = .returned (.slice a 0 cap) ∧ w' = w := Any.slices_Compact_int_empty Tryz.laysNm220 a cap w
open Go.RowKit Go.Sort in
theorem Tryz.slices_Sort_int_none (p : Option Addr) (cap : Nat) (w : World) :
    Calls Tryz.prog 28 #[.slice p 0 cap] w fun e w' => e = .returned (.tuple #[]) ∧ w' = w := Any.slices_Sort_int_none Tryz.lays189 p cap w
end Go.Proofs

namespace Go.Proofs.YtmipnicdlldjnaaGreatDoor
set_option linter.unusedVariables false
set_option linter.unusedSimpArgs false
open Go.RowKit Go.Sort

theorem encsI (l : List Int) : IK.encs l = l.map (Value.int .i64) := by
  induction l with
  | nil => rfl
  | cons a l ih => rw [Kd.encs_cons, ih]; rfl
theorem getB {l : List Int} {j : Nat} {x : Int} (h : l[j]? = some x) : l.toArray[j]! = x := by
  obtain ⟨h1, h2⟩ := List.getElem?_eq_some_iff.1 h
  rw [getElem!_pos _ j (by simpa using h1)]; simpa using h2
theorem Own.holds {e : TypeId} {w : World} {g n cap : Nat} {l : List Int} (h : Own IK e w (.slice (some ⟨g, 0, none⟩) n cap) l) : Holds (Value.int .i64) w g 0 l.toArray := by
  intro j hj
  have hj : j < l.length := by simpa using hj
  obtain ⟨x, hx⟩ : ∃ x, l[j]? = some x := ⟨_, List.getElem?_eq_getElem hj⟩
  rw [getB hx]
  refine ⟨h.cells g 0 n cap rfl j _ (by rw [encsI, List.getElem?_map, hx]; rfl), ?_⟩
  rcases h with ⟨hv, _⟩ | ⟨g', cap', cur, hv, hb, _⟩
  · simp at hv
  · simp only [Value.slice.injEq, Option.some.injEq, Addr.mk.injEq] at hv
    obtain ⟨⟨rfl, _, _⟩, _, _⟩ := hv
    exact blk_free hb _
theorem rdI_put {X : World} {g : Nat} {zs d : List Int} (hH : Holds (Value.int .i64) X g 0 zs.toArray) (hs : d.length = zs.length) {k cap : Nat} (hk : k ≤ d.length) (hc : k ≤ cap) (hm : cap ≤ maxLen) : Rd IK (putRow (Value.int .i64) X g 0 d.toArray) (.slice (some ⟨g, 0, none⟩) k cap) (d.take k) := by
  have hl : (d.take k).length = k := by rw [List.length_take]; omega
  refine .inr ⟨g, 0, cap, by rw [hl], by rw [hl]; exact hc, hm, fun j u hu => ?_⟩
  rw [encsI, List.getElem?_map, Option.map_eq_some_iff] at hu
  obtain ⟨x, hx, rfl⟩ := hu
  have hjk : j < k := by have := (List.getElem?_eq_some_iff.1 hx).1; omega
  rw [List.getElem?_take_of_lt hjk] at hx
  have h := cell?_putRow (Value.int .i64) X g 0 zs.toArray d.toArray hH (by simpa using hs) j (by have := (List.getElem?_eq_some_iff.1 hx).1; simpa using this)
  rw [getB hx] at h
  exact h
theorem compact_len (zs : List Int) : (Lib.compact zs).length ≤ zs.length := by
  unfold Lib.compact Lib.compactUpTo
  rw [List.length_map]
  exact Nat.le_trans (List.length_filter_le _ _) (by simp)
theorem kp_put (w : World) (g n : Nat) (d : Array Int) : Kp (fun k => k = g) w (putRow (Value.int .i64) (Sort.ahead w n) g 0 d) :=
  ⟨rfl, rfl, rfl, by rw [size_putRow]; exact Nat.le_refl _, fun j hj hn => by unfold putRow mapBlock; simp only [Array.getElem?_modify]; rw [if_neg (fun e => hn e.symm)]; rfl⟩
theorem kp_grow (w : World) (os : Array Obj) : Kp No w (grow w os) :=
  ⟨rfl, rfl, rfl, by rw [size_grow]; omega, fun j hj _ => heap_grow_old w os hj⟩
noncomputable def zonesR (f : Flr) (l : List ActT) : List Int := Lib.compact ((zonesT f l).mergeSort fun x y => decide (x ≤ y))
noncomputable def zonesN (f : Flr) (l : List ActT) : List Nat := l.filterMap fun x => if x.k = 1 then zoneP f x.c else none
theorem zonesT_eq (f : Flr) (l : List ActT) : zonesT f l = ints (zonesN f l) := by
  unfold zonesT zonesN ints
  rw [List.map_filterMap]
  congr 1
  funext x
  unfold zoT
  by_cases h : x.k = 1
  · rw [if_pos h, if_pos h]
  · rw [if_neg h, if_neg h]; rfl
theorem zonesN_snoc {f : Flr} {l : List ActT} {k : Nat} {x : ActT} (hx : l[k]? = some x) : zonesN f (l.take (k + 1)) = zonesN f (l.take k) ++ (if x.k = 1 then zoneP f x.c else none).toList := by
  unfold zonesN
  rw [List.take_add_one, hx, List.filterMap_append]
  cases h : (if x.k = 1 then zoneP f x.c else none) <;> simp [List.filterMap_cons, h]
theorem zonesN_len (f : Flr) (l : List ActT) : (zonesN f l).length ≤ l.length := by unfold zonesN; exact List.length_filterMap_le _ _
theorem zonesT_len (f : Flr) (l : List ActT) : (zonesT f l).length ≤ l.length := by unfold zonesT; exact List.length_filterMap_le _ _
set_option maxHeartbeats 1000000 in
set_option maxRecDepth 100000 in
theorem tpZones_any (f : Flr) (hsz : f.s.size ≤ 1000000) {w : World} {v : Value} {l : List ActT} (hl : Rd AcK w v l) (hlb : l.length ≤ 1000000) (hc : ∀ x ∈ l, x.c ≤ 9223372036854775807) :
    Calls Tryz.prog 15 #[f.val, v] w fun e w' => ∃ v', e = .returned v' ∧ Rd IK w' v' (zonesR f l) ∧ Kp No w w' := by
  obtain ⟨A, cap, rfl⟩ := hl.shape
  obtain ⟨n, hn⟩ : ∃ z, z = l.length := ⟨_, rfl⟩
  rw [← hn] at hl hlb ⊢
  have HBX := Lib.hid (BxW.new f w)
  have HL := Lib.hid hl; have HN := Lib.hid hn
  have ZO := Lib.hid (fun (x : ActT) (hx : x ∈ l) w => zone_any f (by omega) x.c (hc x hx) w)
  obtain ⟨X, Y, sb⟩ := f
  unfold Flr.val at ZO ⊢
  simp only at ZO ⊢
  clear hsz hl hn hc
  go_enter Tryz.func15, Tryz.ntmps15
  go_wp2_with fail
  go_loopg [5, 12] (n + 1) (fun g_ vv iv wx => ∃ (i m : Nat) (A : Option Addr) (q : Nat), g_ = n + 1 - i ∧ iv = .int .i64 (i : Int) ∧ i ≤ n ∧ vv = .slice A m q ∧ m = (zonesN ⟨X, Y, sb⟩ (l.take i)).length ∧ NewS IK 3 (w.alloc (.cells #[.int .i64 X, .int .i64 Y, .string sb] 23)) wx vv (ints (zonesN ⟨X, Y, sb⟩ (l.take i))))
  case atStart => exact ⟨0, 0, none, 0, rfl, rfl, by omega, rfl, rfl, NewS.nil _ _ _⟩
  case round =>
    obtain ⟨i, m, A2, q, hg, rfl, hi, rfl, hm, ns⟩ := hrel
    have hml : m ≤ i := by rw [hm]; exact Nat.le_trans (zonesN_len _ _) (by rw [List.length_take]; omega)
    have HM := Lib.hid hm; have NS := Lib.hid ns
    clear hm ns
    by_cases hlt : i < n
    · have hltI : (i : Int) < (n : Int) := by omega
      have hwi : IntKind.i64.wrap ((i : Int) + 1) = (i : Int) + 1 := IntWalk.i64_in _ (by omega)
      obtain ⟨x, hx⟩ : ∃ x, l[i]? = some x := ⟨_, List.getElem?_eq_getElem (by rw [← HN.out]; exact hlt)⟩
      have KW := Lib.hid (HBX.out.kp.no NS.out.kp)
      rcases (HL.out.kpNo KW.out) with ⟨_, he⟩ | ⟨g, o, cap', hv, _⟩
      · have := HN.out; rw [he, List.length_nil] at this; omega
      simp only [Value.slice.injEq] at hv
      obtain ⟨rfl, hzz, rfl⟩ := hv
      obtain ⟨x0, x1, x2, x3⟩ := (HL.out.kpNo KW.out).actAt hx
      have BB := Lib.hid (HBX.out.no NS.out.kp)
      have c0 := fun o => (BB.out.no ((Kp.refl No wr).alloc o)).c0
      have c1 := fun o => (BB.out.no ((Kp.refl No wr).alloc o)).c1
      have c2 := fun o => (BB.out.no ((Kp.refl No wr).alloc o)).c2
      simp only at c0 c1 c2
      obtain ⟨Z, hZ⟩ : ∃ Z, zoneP ⟨X, Y, sb⟩ x.c = Z := ⟨_, rfl⟩
      obtain ⟨zn, hzn⟩ : ∃ z : Nat, z = Z.getD 0 := ⟨_, rfl⟩
      obtain ⟨is, his⟩ : ∃ z : Bool, Z.isSome = z := ⟨_, rfl⟩
      have ZX := Lib.hid (show ∀ w, Calls Tryz.prog 19 #[.agg #[.int .i64 X, .int .i64 Y, .string sb], .int .i64 x.c] w fun e w' => e = .returned (.tuple #[.int .i64 (zn : Int), .bool is]) ∧ Kp No w w' from fun w => by
        have h1 := ZO.out x (List.mem_of_getElem? hx) w
        have e : ZVal (zoneP ⟨X, Y, sb⟩ x.c) = .tuple #[.int .i64 (zn : Int), .bool is] := by unfold ZVal; rw [hZ, ← hzn, his]
        rwa [e] at h1)
      obtain ⟨k1, hk1⟩ : ∃ z, ((x.k : Int) == 1) = z := ⟨_, rfl⟩
      have HS := Lib.hid (show zonesN ⟨X, Y, sb⟩ (l.take (i + 1)) = zonesN ⟨X, Y, sb⟩ (l.take i) ++ (if (is && k1) = true then [zn] else []) by
        rw [zonesN_snoc hx]
        rw [hZ, hzn, ← his, ← hk1]
        cases Z <;> by_cases h : x.k = 1 <;> simp [h] <;> omega)
      obtain ⟨wa, hwa⟩ : ∃ y : World, y = wr.alloc (.cells #[.int .u8 (x.k : Int), .int .i64 x.c, .int .i64 x.p] 41) := ⟨_, rfl⟩
      have HWA := Lib.hid hwa
      have XB := Lib.hid (fun wx (hk : Kp No wa wx) => by
        have b : wx.heap[wr.heap.size]? = some (.cells #[.int .u8 (x.k : Int), .int .i64 x.c, .int .i64 x.p] 41 (0, 0)) := hk.blk (by rw [hwa]; exact blk_new _ _) (no_no _)
        exact (blk_cell b 0 : wx.cell? ⟨wr.heap.size, 0, none⟩ = some (.int .u8 (x.k : Int))))
      have KA := Lib.hid (show Kp No wr wa by rw [hwa]; exact (Kp.refl _ _).alloc _)
      clear hx hzz hlt hZ hzn his hwa
      go_wp2_with fail
      rw [← HWA.out]
      refine (ZX.out _).mono ?_
      rintro e w1 ⟨rfl, kz⟩
      have hx0 := XB.out w1 kz
      have N1 := Lib.hid (NS.out.kpNo (KA.out.no kz))
      clear kz x0 x1 x2 x3 c0 c1 c2
      cases is <;> cases k1
      case true.true =>
        go_wp2_with (at_builtin; refine wpl_snocI rfl (.tmp 29) (.tmp 31) rfl rfl rfl rfl N1.out HM.out (by omega) ?_; intro A3 q3 w4 n4 k4 _; have N4 := Lib.hid n4; clear n4 k4)
        go_roundg (n + 1 - (i + 1))
        case measure => omega
        case rel => exact ⟨i + 1, m + 1, A3, q3, rfl, by go_num, by omega, rfl, by rw [HS.out, List.length_append, ← HM.out]; rfl, by rw [HS.out]; exact N4.out⟩
      all_goals
        go_wp2_with fail
        go_roundg (n + 1 - (i + 1))
        case measure => omega
        case rel => exact ⟨i + 1, m, A2, q, rfl, by go_num, by omega, rfl, by rw [HS.out, HM.out]; simp, by rw [HS.out]; simpa using N1.out⟩
    · obtain rfl : n = i := by omega
      have hd0 : ¬ (n : Int) < (n : Int) := by omega
      obtain ⟨zs, hzs⟩ : ∃ z, z = zonesT ⟨X, Y, sb⟩ l := ⟨_, rfl⟩
      have HZ := Lib.hid (show zonesR ⟨X, Y, sb⟩ l = Lib.compact (zs.mergeSort fun x y => decide (x ≤ y)) by unfold zonesR; rw [hzs])
      have HT := Lib.hid (show ints (zonesN ⟨X, Y, sb⟩ (l.take n)) = zs by rw [HN.out, List.take_length, hzs, zonesT_eq])
      have hmz : m = zs.length := by rw [HM.out, ← HT.out, ints_len]
      have OZ := Lib.hid (show NewS IK 3 (w.alloc (.cells #[.int .i64 X, .int .i64 Y, .string sb] 23)) wr (.slice A2 m q) zs by rw [← HT.out]; exact NS.out)
      have HMZ := Lib.hid hmz
      clear hlt hzs hmz
      by_cases hm0 : m = 0
      · subst hm0
        have hz0 : zs = [] := List.length_eq_zero_iff.1 HMZ.out.symm
        have HZ0 := Lib.hid (show zonesR ⟨X, Y, sb⟩ l = [] by rw [HZ.out, hz0, List.mergeSort_nil]; rfl)
        clear hz0
        go_wp2_with fail
        refine (Tryz.slices_Sort_int_none _ _ _).mono ?_
        rintro e w1 ⟨rfl, rfl⟩
        go_wp2_with fail
        refine (Tryz.slices_Compact_int_empty _ _ _).mono ?_
        rintro e w1 ⟨rfl, rfl⟩
        go_wp2_with fail
        go_ret
        exact ⟨_, rfl, by rw [HZ0.out]; exact Rd.empty _ _ _ _, HBX.out.kp.no OZ.out.kp⟩
      · rcases OZ.out.own.b with ⟨hv, hz0⟩ | ⟨g, cap2, hv, hcm, hlc, _⟩
        · exfalso; apply hm0; rw [HMZ.out, hz0]; rfl
        simp only [Value.slice.injEq] at hv
        obtain ⟨rfl, hzz, rfl⟩ := hv
        subst hzz
        have HH := Lib.hid OZ.out.own.holds
        have hgl : g < wr.heap.size := OZ.out.own.lt rfl
        have hgw : w.heap.size ≤ g := by have := OZ.out.ge g rfl; simp at this; omega
        have KR := Lib.hid (HBX.out.kp.no OZ.out.kp)
        obtain ⟨ys, hys⟩ : ∃ ys, ys = zs.mergeSort (fun x y => decide (x ≤ y)) := ⟨_, rfl⟩
        have hyl : ys.length = zs.length := by rw [hys, List.length_mergeSort]
        have SO := Lib.hid (Tryz.slices_Sort_int g 0 q zs wr HH.out hgl (by omega))
        rw [← hys] at SO HZ
        have HCM := Lib.hid hcm; have HLC := Lib.hid hlc; have HYL := Lib.hid hyl; have HGL := Lib.hid hgl; have HGW := Lib.hid hgw
        clear hcm hlc hyl hgl hgw hys hm0
        go_wp2_with fail
        refine SO.out.mono ?_
        rintro e w1 ⟨rfl, n1, os, hw1⟩
        have H1 := Lib.hid (show Holds (Value.int .i64) w1 g 0 ys.toArray by
          rw [hw1]
          exact holds_grow _ _ _ _ _ _ (by rw [size_putRow]; exact HGL.out) (holds_putRow _ _ _ _ zs.toArray _ HH.out (by have := HYL.out; simpa using this)))
        have K1 := Lib.hid (show Kp (fun k => k = g) wr w1 by rw [hw1]; exact (kp_put _ _ _ _).no (kp_grow _ _))
        have CO := Lib.hid (Tryz.slices_Compact_int g 0 q ys w1 H1.out (by have := HYL.out; have := HLC.out; have := HCM.out; unfold maxLen at this; omega) (by have := HYL.out; have := HLC.out; omega))
        rw [HYL.out] at CO
        clear hw1
        go_wp2_with fail
        refine CO.out.mono ?_
        rintro e w2 ⟨rfl, n2, hw2⟩
        have hcl := compact_len ys
        have hR : Rd IK w2 (.slice (some ⟨g, 0, none⟩) (Lib.compact ys).length q) (Lib.compact ys) := by
          have h1 := rdI_put (X := Sort.ahead w1 n2) (zs := ys) (d := Lib.compact ys ++ List.replicate (zs.length - (Lib.compact ys).length) 0) H1.out (by have := HYL.out; rw [List.length_append, List.length_replicate]; omega) (k := (Lib.compact ys).length) (cap := q) (by rw [List.length_append]; omega) (by have := HYL.out; have := HLC.out; omega) HCM.out
          rw [List.take_left] at h1
          rw [hw2]
          exact h1
        have HRR := Lib.hid hR
        have K2 := Lib.hid (show Kp (fun k => k = g) w1 w2 by rw [hw2]; exact kp_put _ _ _ _)
        have K3 := Lib.hid ((KR.out.newP K1.out HGW.out).newP K2.out HGW.out)
        clear hw2 hR hcl
        go_wp2_with fail
        go_ret
        exact ⟨_, rfl, by rw [HZ.out]; exact HRR.out, K3.out⟩
end Go.Proofs.YtmipnicdlldjnaaGreatDoor

namespace Go.Proofs.YtmipnicdlldjnaaGreatDoor
set_option linter.unusedVariables false
set_option linter.unusedSimpArgs false
open Go.RowKit

/-- m levels are done; in the next one the cells ahead of i. -/
structure LvI (st : Nat → List Nat) (s n m i : Nat) (D : List Int) : Prop where
  len : D.length = n
  a : ∀ (c : Nat) d, D[c]? = some d → d = -1 ∨ ∃ k : Nat, d = k ∧ Wk st s k c ∧ k ≤ m + 1
  b : ∀ (k c : Nat), k ≤ m → Wk st s k c → ∃ k' : Nat, k' ≤ k ∧ D[c]? = some (k' : Int)
  c : ∀ (u : Nat), u < i → D[u]? = some (m : Int) → ∀ c ∈ st u, ∃ k' : Nat, k' ≤ m + 1 ∧ D[c]? = some (k' : Int)
/-- ...and of what the i-th goes to, the first j. -/
structure LvJ (st : Nat → List Nat) (s n m i j : Nat) (D : List Int) : Prop where
  v : LvI st s n m i D
  at_ : D[i]? = some (m : Int)
  p : ∀ c ∈ (st i).take j, ∃ k' : Nat, k' ≤ m + 1 ∧ D[c]? = some (k' : Int)
section
variable {st : Nat → List Nat} {s n m i j c : Nat} {D : List Int}
theorem LvI.start (hs : s < n) : LvI st s n 0 0 ((List.replicate n (-1 : Int)).set s 0) := by
  refine ⟨by simp, fun c d h => ?_, fun k c hk hw => ?_, fun u hu => by omega⟩
  · rw [List.getElem?_set, List.length_replicate] at h
    by_cases e : s = c
    · subst e; rw [if_pos rfl, if_pos hs] at h; cases h; exact .inr ⟨0, rfl, .nil, by omega⟩
    · rw [if_neg e, List.getElem?_replicate] at h
      split at h
      · cases h; exact .inl rfl
      · cases h
  · obtain rfl : k = 0 := by omega
    cases hw
    exact ⟨0, Nat.le_refl _, by simp [hs]⟩
theorem LvI.skip (h : LvI st s n m i D) (hd : D[i]? ≠ some (m : Int)) : LvI st s n m (i + 1) D :=
  ⟨h.len, h.a, h.b, fun u hu hu2 => by
    rcases Nat.lt_or_ge u i with h1 | h1
    · exact h.c u h1 hu2
    · obtain rfl : u = i := by omega
      exact absurd hu2 hd⟩
theorem LvI.into (h : LvI st s n m i D) (hd : D[i]? = some (m : Int)) : LvJ st s n m i 0 D := ⟨h, hd, fun c hc => by simp at hc⟩
theorem LvJ.skip (h : LvJ st s n m i j D) (hc : (st i)[j]? = some c) {d : Int} (hd : D[c]? = some d) (h0 : 0 ≤ d) : LvJ st s n m i (j + 1) D :=
  ⟨h.v, h.at_, fun c' hc' => by
    rw [List.take_add_one, hc] at hc'
    rcases List.mem_append.1 hc' with h2 | h2
    · exact h.p c' h2
    · simp at h2; subst h2
      rcases h.v.a _ _ hd with e | ⟨k, rfl, _, h3⟩
      · omega
      · exact ⟨k, h3, hd⟩⟩
theorem LvJ.put (h : LvJ st s n m i j D) (hc : (st i)[j]? = some c) (hcn : c < n) {d : Int} (hd : D[c]? = some d) (h0 : d < 0) : LvJ st s n m i (j + 1) (D.set c ((m : Int) + 1)) := by
  have hcl : c < D.length := by rw [h.v.len]; exact hcn
  have keep : ∀ (e : Nat) (k : Nat), D[e]? = some (k : Int) → (D.set c ((m : Int) + 1))[e]? = some (k : Int) := fun e k he => by
    rw [List.getElem?_set, if_neg]
    · exact he
    · rintro rfl; rw [hd] at he; cases he; omega
  have back : ∀ (e : Nat), (D.set c ((m : Int) + 1))[e]? = some (m : Int) → D[e]? = some (m : Int) := fun e he => by
    rw [List.getElem?_set] at he
    by_cases e2 : c = e
    · subst e2; rw [if_pos rfl, if_pos hcl] at he; simp at he; omega
    · rwa [if_neg e2] at he
  obtain ⟨wm, hwm⟩ : ∃ k : Nat, (m : Int) = k ∧ Wk st s k i ∧ k ≤ m + 1 := by
    rcases h.v.a _ _ h.at_ with e | e
    · omega
    · exact e
  obtain rfl : m = wm := by omega
  refine ⟨⟨by simp [h.v.len], fun e d2 he => ?_, fun k e hk hw => ?_, fun u hu hu2 e he => ?_⟩, keep _ _ h.at_, fun e he => ?_⟩
  · rw [List.getElem?_set] at he
    by_cases e2 : c = e
    · subst e2
      rw [if_pos rfl, if_pos hcl] at he; cases he
      exact .inr ⟨m + 1, by omega, .step hwm.2.1 (List.mem_of_getElem? hc), by omega⟩
    · rw [if_neg e2] at he; exact h.v.a _ _ he
  · obtain ⟨k', h1, h2⟩ := h.v.b k e hk hw
    exact ⟨k', h1, keep _ _ h2⟩
  · obtain ⟨k', h1, h2⟩ := h.v.c u hu (back _ hu2) e he
    exact ⟨k', h1, keep _ _ h2⟩
  · rw [List.take_add_one, hc] at he
    rcases List.mem_append.1 he with h2 | h2
    · obtain ⟨k', h3, h4⟩ := h.p e h2
      exact ⟨k', h3, keep _ _ h4⟩
    · simp at h2; subst h2
      exact ⟨m + 1, Nat.le_refl _, by rw [List.getElem?_set, if_pos rfl, if_pos hcl]; simp⟩
theorem LvJ.done (h : LvJ st s n m i (st i).length D) : LvI st s n m (i + 1) D :=
  ⟨h.v.len, h.v.a, h.v.b, fun u hu hu2 c hc => by
    rcases Nat.lt_or_ge u i with h1 | h1
    · exact h.v.c u h1 hu2 c hc
    · obtain rfl : u = i := by omega
      exact h.p c (by rw [List.take_length]; exact hc)⟩
theorem LvI.next (h : LvI st s n m n D) : LvI st s n (m + 1) 0 D := by
  refine ⟨h.len, fun c d hd => ?_, fun k c hk hw => ?_, fun u hu => by omega⟩
  · rcases h.a c d hd with e | ⟨k, e, hw, hk⟩
    · exact .inl e
    · exact .inr ⟨k, e, hw, by omega⟩
  · rcases Nat.lt_or_ge k (m + 1) with h1 | h1
    · exact h.b k c (by omega) hw
    · obtain rfl : k = m + 1 := by omega
      cases hw with
      | step hw hc =>
        rename_i a
        obtain ⟨k', h2, h3⟩ := h.b m a (Nat.le_refl _) hw
        rcases Nat.lt_or_ge k' m with h4 | h4
        · rcases h.a _ _ h3 with e | ⟨k2, e, hw2, _⟩
          · omega
          · obtain rfl : k' = k2 := by omega
            obtain ⟨k3, h5, h6⟩ := h.b (k' + 1) c (by omega) (.step hw2 hc)
            exact ⟨k3, by omega, h6⟩
        · obtain rfl : k' = m := by omega
          exact h.c a (by have := (List.getElem?_eq_some_iff.1 h3).1; rw [h.len] at this; exact this) h3 c hc
theorem short_list (st : Nat → List Nat) (s n : Nat) (hs : s < n) (hst : ∀ u c, u < n → c ∈ st u → c < n) : ∀ (k c : Nat), Wk st s k c → (∀ j, Wk st s j c → k ≤ j) → ∃ L : List Nat, L.length = k + 1 ∧ (∀ x ∈ L, x < n) ∧ L.Nodup ∧ (∀ x ∈ L, ∃ j, j ≤ k ∧ Wk st s j x) ∧ c < n := by
  intro k
  induction k with
  | zero => intro c hw _; cases hw; exact ⟨[s], rfl, by simpa using hs, by simp, by simpa using .nil, hs⟩
  | succ k ih =>
    intro c hw hl
    cases hw with
    | step hw hc =>
      rename_i a
      obtain ⟨L, h1, h2, h3, h4, h5⟩ := ih a hw (fun j hj => by have := hl (j + 1) (.step hj hc); omega)
      have hcn := hst a c h5 hc
      refine ⟨c :: L, by simp [h1], fun x hx => ?_, ?_, fun x hx => ?_, hcn⟩
      · rcases List.mem_cons.1 hx with rfl | hx
        · exact hcn
        · exact h2 x hx
      · rw [List.nodup_cons]
        refine ⟨fun hm => ?_, h3⟩
        obtain ⟨j, hj, hw2⟩ := h4 c hm
        have := hl j hw2; omega
      · rcases List.mem_cons.1 hx with rfl | hx
        · exact ⟨k + 1, Nat.le_refl _, .step hw hc⟩
        · obtain ⟨j, hj, hw2⟩ := h4 x hx
          exact ⟨j, by omega, hw2⟩
theorem short_lt {st : Nat → List Nat} {s n : Nat} (hs : s < n) (hst : ∀ u c, u < n → c ∈ st u → c < n) {k c : Nat} (hw : Wk st s k c) (hl : ∀ j, Wk st s j c → k ≤ j) : k < n := by
  obtain ⟨L, h1, h2, h3, _⟩ := short_list st s n hs hst k c hw hl
  have := List.Nodup.length_le_of_subset h3 (l₂ := List.range n) (fun x hx => by simpa using h2 x hx)
  simp at this; omega
theorem LvI.dl (h : LvI st s n n 0 D) (hs : s < n) (hst : ∀ u c, u < n → c ∈ st u → c < n) : D = distL st s n := by
  refine distL_of h.len fun c d hd => ?_
  have least : ∀ k, Wk st s k c → ∃ k0, k0 ≤ k ∧ D[c]? = some (k0 : Int) := fun k hw => by
    obtain ⟨k1, hw1, hl1⟩ := least_ex (p := fun k => Wk st s k c) k hw
    have := short_lt hs hst hw1 hl1
    obtain ⟨k2, h1, h2⟩ := h.b k1 c (by omega) hw1
    exact ⟨k2, by have := hl1 k hw; omega, h2⟩
  rcases h.a c d hd with e | ⟨k, rfl, hw, _⟩
  · refine .inl ⟨e, fun k hw => ?_⟩
    obtain ⟨k0, _, h2⟩ := least k hw
    rw [hd] at h2; cases h2; omega
  · refine .inr ⟨k, rfl, hw, fun k' hw' => ?_⟩
    obtain ⟨k0, h1, h2⟩ := least k' hw'
    rw [hd] at h2; simp at h2; omega
end
end Go.Proofs.YtmipnicdlldjnaaGreatDoor

namespace Go.Proofs.YtmipnicdlldjnaaGreatDoor
set_option linter.unusedVariables false
set_option linter.unusedSimpArgs false
open Go.RowKit

theorem dst_smallT {st : Nat → List Nat} {s n c : Nat} (hs : s < n) (hst : ∀ u c, u < n → c ∈ st u → c < n) : dst st s c < n := by
  rcases dst_isD st s c with ⟨e, _⟩ | ⟨k, e, hw, hl⟩
  · omega
  · have := short_lt hs hst hw hl; omega
theorem zone_okT {f : Flr} {c : Int} (h : (zoneP f c).isSome = true) : ∃ k : Nat, c = k ∧ k < f.s.size ∧ kdS f.s k = 2 ∧ ptOk f k = true ∧ opB f k = true := by
  unfold zoneP at h
  split at h
  · rename_i hi
    unfold isB at hi
    simp only [Bool.and_eq_true, decide_eq_true_eq, beq_iff_eq] at hi
    obtain ⟨⟨⟨h0, h1⟩, h2⟩, h3⟩ := hi
    obtain ⟨k, rfl⟩ : ∃ k : Nat, c = k := ⟨c.toNat, by omega⟩
    rw [Int.toNat_natCast] at h2
    have hk : kdS f.s k = 2 := by omega
    have h35 : bt f.s k ≠ 35 := fun e => by unfold kdS at hk; rw [e] at hk; revert hk; decide
    refine ⟨k, rfl, by omega, hk, ?_, ?_⟩
    · unfold ptOk; simp [h3, h35]; omega
    · unfold opB; simp [h35]; omega
  · cases h
theorem dock_okT {f : Flr} {r : Int} {d : Nat} (h : dockP f r = some d) : d < f.s.size ∧ kdS f.s d = 3 ∧ ptOk f d = true ∧ opB f d = true := by
  unfold dockP at h
  split at h
  · rename_i hi
    unfold dockAt at h
    have h1 := List.find?_some h
    have h2 := List.mem_of_find?_eq_some h
    simp at h1 h2
    have h35 : bt f.s d ≠ 35 := fun e => by have := h1.1; unfold kdS at this; rw [e] at this; revert this; decide
    refine ⟨h2, h1.1, ?_, ?_⟩
    · unfold ptOk; simp [hi.1, h35]; omega
    · unfold opB; simp [h35]; omega
  · cases h
def goT (Q : List Nat) : List ActT := Q.map fun (c : Nat) => ⟨1, (c : Int), 0⟩
abbrev Leg := Nat × Nat × Nat
def LegR (f : Flr) (B : List Int) (pod : Int) (g : Leg) (m : List ActT) : Prop :=
  ∃ Q, dst (stepsP f g.1 B) g.1 g.2.1 = (List.length Q : Int) ∧ FstW (stepsP f g.1 B) g.1 g.2.1 Q ∧ m = goT Q ++ (if g.2.2 = 0 then [] else [⟨g.2.2, (g.2.1 : Int), pod⟩])
def legsT (d a b : Nat) : List Leg := [(d, a, 2), (a, b, 3), (b, d, 0)]
noncomputable def makeB (f : Flr) (robot pod fr tg : Int) : Bool := (dockP f robot).isSome && (zoneP f fr).isSome && (zoneP f tg).isSome && !decide (pod < 0) && !decide (64 ≤ pod)
inductive MadeR (f : Flr) (robot pod fr tg : Int) (B : List Int) : List ActT → Int → Prop
  | arg : makeB f robot pod fr tg = false → MadeR f robot pod fr tg B [] 1
  | no (d a b : Nat) (g : Leg) : makeB f robot pod fr tg = true → dockP f robot = some d → fr = a → tg = b → g ∈ legsT d a b → dst (stepsP f g.1 B) g.1 g.2.1 < 0 → MadeR f robot pod fr tg B [] 2
  | ok (d a b : Nat) (m1 m2 m3 : List ActT) : makeB f robot pod fr tg = true → dockP f robot = some d → fr = a → tg = b → LegR f B pod (d, a, 2) m1 → LegR f B pod (a, b, 3) m2 → LegR f B pod (b, d, 0) m3 → MadeR f robot pod fr tg B (m1 ++ m2 ++ m3) 0
def LeK : Kd Leg := { sz := 3, enc := fun x => [.int .i64 (x.1 : Int), .int .i64 (x.2.1 : Int), .int .u8 (x.2.2 : Int)], len := fun _ => rfl, one := by intro a v hv; simp at hv; rcases hv with rfl | rfl | rfl <;> rfl, pos := by decide }
theorem Rd.legAt {w : World} {l : List Leg} {g o n cap : Nat} (h : Rd LeK w (.slice (some ⟨g, o, none⟩) n cap) l) {i : Nat} {x : Leg} (hx : l[i]? = some x) :
    w.cell? ⟨g, o + i * 3, none⟩ = some (.int .i64 (x.1 : Int)) ∧ w.cell? ⟨g, o + i * 3 + 1, none⟩ = some (.int .i64 (x.2.1 : Int)) ∧ w.cell? ⟨g, o + i * 3 + 2, none⟩ = some (.int .u8 (x.2.2 : Int)) ∧ w.cell? ⟨g, o + i * 3 + 1 + 1, none⟩ = some (.int .u8 (x.2.2 : Int)) :=
  ⟨h.at rfl hx (j := 0) rfl, h.at rfl hx (j := 1) rfl, h.at rfl hx (j := 2) rfl, h.at rfl hx (j := 2) rfl⟩
/-- A list of acts in new memory; since w5 no older block but v0's own was written. -/
structure OutS (w0 : World) (v0 : Value) (w5 w : World) (v : Value) (l : List ActT) : Prop where
  ns : NewS AcK 41 w0 w v l
  kp : Kp (fun k => v0.ownBlock = some k) w5 w
  bl : ∀ g, v.ownBlock = some g → v0.ownBlock = some g ∨ w5.heap.size ≤ g
theorem OutS.start {w0 w : World} {v : Value} {l : List ActT} (h : NewS AcK 41 w0 w v l) : OutS w0 v w w v l := ⟨h, Kp.refl _ _, fun g h => .inl h⟩
theorem OutS.no {w0 w5 w w' : World} {v0 v : Value} {l : List ActT} (h : OutS w0 v0 w5 w v l) (hk : Kp No w w') : OutS w0 v0 w5 w' v l := ⟨h.ns.kpNo hk, h.kp.no hk, h.bl⟩
theorem wpl_snocA {w w0 w5 : World} {v0 : Value} {ops : Array Oper} {rest : List Oper} {o : Oper} {a : Act} {Q : Exit → Act → World → Prop} (hgd : o.guard = none) (s x : Operand)
    (ho : o.op = .call { callee := .builtin .append, args := #[s, x], argTypes := #[29, 29] }) {v : Value} {b m : Nat} {y : ActT} {zk zc zp : Int} {L : List ActT} (hs : a.eval s = v) (hxv : a.eval x = .slice (some ⟨b, 0, none⟩) 1 1) (hb : b = w.heap.size) (hk : zk = (y.k : Int)) (hc : zc = y.c) (hp : zp = y.p)
    (ns : OutS w0 v0 w5 w v L) (hm : m = L.length) (hl : m ≤ 1000000)
    (h : ∀ A q w', OutS w0 v0 w5 w' (.slice A (m + 1) q) (L ++ [y]) → wpList Tryz.prog ops Q rest (a.put o.dst (.slice A (m + 1) q)) w') :
    wpList Tryz.prog ops Q (o :: rest) a (w.alloc (.cells #[.int .u8 zk, .int .i64 zc, .int .i64 zp] 41)) := by
  subst hb hm hk hc hp
  refine wpl_append elAc hgd s x ho hs hxv (l := L) (m := [y]) (ns.ns.own.alloc _) (Rd.litAt AcK 41 _ _ [y] rfl (by unfold maxLen; simp) _ _ rfl rfl) (by unfold maxLen; simp; omega) (by simp; omega) ?_
  intro v' w' k1 k2 k3
  have q := NewS.app2 k1 k2 k3 ((Kp.refl No w).alloc (.cells #[.int .u8 (y.k : Int), .int .i64 y.c, .int .i64 y.p] 41)) ns.ns (by simp)
  obtain ⟨A, c, rfl⟩ := k1.rd.shape
  rw [List.length_append, List.length_singleton] at q k3 ⊢
  refine h A c w' ⟨q, ((ns.kp.alloc _).trans' k2 fun k hk e => ?_), fun g hg => ?_⟩
  · rcases ns.bl k e with h | h
    · exact h
    · omega
  · rcases k3 g hg with h | h
    · exact ns.bl g h
    · have := ns.kp.size; simp at h; exact .inr (by omega)
end Go.Proofs.YtmipnicdlldjnaaGreatDoor

namespace Go.Proofs.YtmipnicdlldjnaaGreatDoor
set_option linter.unusedVariables false
set_option linter.unusedSimpArgs false
open Go.RowKit

def MakeO (f : Flr) (robot pod fr tg : Int) (B : List Int) (w : World) (e : Ending) (w' : World) : Prop :=
  ∃ out A q er, MadeR f robot pod fr tg B out er ∧ e = .returned (.tuple #[.slice A out.length q, .int .i64 er]) ∧ NewS AcK 41 w w' (.slice A out.length q) out
set_option maxHeartbeats 1000000 in
set_option maxRecDepth 100000 in
theorem tpMake_arg (f : Flr) (hsz : f.s.size ≤ 1000000) (robot pod fr tg : Int) (hr : robot ≤ 9223372036854775807) (hfr : fr ≤ 9223372036854775807) (htg : tg ≤ 9223372036854775807) (bv : Value) (B : List Int) (w : World) (hmk : makeB f robot pod fr tg = false) :
    Calls Tryz.prog 7 #[f.val, .int .i64 robot, .int .i64 pod, .int .i64 fr, .int .i64 tg, bv] w (MakeO f robot pod fr tg B w) := by
  have HBX := Lib.hid (BxW.new f w)
  have FIN := Lib.hid (show ∀ w', Kp No w w' → MakeO f robot pod fr tg B w (.returned (.tuple #[.slice none 0 0, .int .i64 1])) w' from fun w' hk => ⟨[], none, 0, 1, .arg hmk, rfl, (NewS.nil _ _ _).kpNo hk⟩)
  obtain ⟨D, hD⟩ : ∃ D, dockP f robot = D := ⟨_, rfl⟩
  obtain ⟨dn, hdn⟩ : ∃ z : Nat, z = D.getD 0 := ⟨_, rfl⟩
  obtain ⟨is, his⟩ : ∃ z : Bool, D.isSome = z := ⟨_, rfl⟩
  have DO := Lib.hid (show ∀ w, Calls Tryz.prog 18 #[f.val, .int .i64 robot] w fun e w' => e = .returned (.tuple #[.int .i64 (dn : Int), .bool is]) ∧ Kp No w w' from fun w => by
    have h1 := dock_any f (by omega) robot hr w
    have e : ZVal (dockP f robot) = .tuple #[.int .i64 (dn : Int), .bool is] := by unfold ZVal; rw [hD, ← hdn, his]
    rwa [e] at h1)
  obtain ⟨Z1, hZ1⟩ : ∃ Z, zoneP f fr = Z := ⟨_, rfl⟩
  obtain ⟨z1, hz1⟩ : ∃ z : Nat, z = Z1.getD 0 := ⟨_, rfl⟩
  obtain ⟨i1, hi1⟩ : ∃ z : Bool, Z1.isSome = z := ⟨_, rfl⟩
  have ZA := Lib.hid (show ∀ w, Calls Tryz.prog 19 #[f.val, .int .i64 fr] w fun e w' => e = .returned (.tuple #[.int .i64 (z1 : Int), .bool i1]) ∧ Kp No w w' from fun w => by
    have h1 := zone_any f (by omega) fr hfr w
    have e : ZVal (zoneP f fr) = .tuple #[.int .i64 (z1 : Int), .bool i1] := by unfold ZVal; rw [hZ1, ← hz1, hi1]
    rwa [e] at h1)
  obtain ⟨Z2, hZ2⟩ : ∃ Z, zoneP f tg = Z := ⟨_, rfl⟩
  obtain ⟨z2, hz2⟩ : ∃ z : Nat, z = Z2.getD 0 := ⟨_, rfl⟩
  obtain ⟨i2, hi2⟩ : ∃ z : Bool, Z2.isSome = z := ⟨_, rfl⟩
  have ZB := Lib.hid (show ∀ w, Calls Tryz.prog 19 #[f.val, .int .i64 tg] w fun e w' => e = .returned (.tuple #[.int .i64 (z2 : Int), .bool i2]) ∧ Kp No w w' from fun w => by
    have h1 := zone_any f (by omega) tg htg w
    have e : ZVal (zoneP f tg) = .tuple #[.int .i64 (z2 : Int), .bool i2] := by unfold ZVal; rw [hZ2, ← hz2, hi2]
    rwa [e] at h1)
  obtain ⟨pl, hpl⟩ : ∃ z, decide (pod < 0) = z := ⟨_, rfl⟩
  obtain ⟨pg, hpg⟩ : ∃ z, decide (64 ≤ pod) = z := ⟨_, rfl⟩
  have hall : (is && i1 && i2 && !pl && !pg) = false := by rw [← hmk]; unfold makeB; rw [hD, hZ1, hZ2, his, hi1, hi2, hpl, hpg]
  obtain ⟨X, Y, sb⟩ := f
  unfold Flr.val at DO ZA ZB ⊢
  simp only at DO ZA ZB ⊢
  clear hsz hr hfr htg hmk hD hdn his hZ1 hz1 hi1 hZ2 hz2 hi2
  go_enter Tryz.func7, Tryz.ntmps7
  go_wp2_with fail
  refine (DO.out _).mono ?_
  rintro e w1 ⟨rfl, k1⟩
  have B1 := Lib.hid (HBX.out.no k1)
  obtain ⟨c0, c1, c2⟩ : _ ∧ _ ∧ _ := ⟨B1.out.c0, B1.out.c1, B1.out.c2⟩
  simp only at c0 c1 c2
  clear k1
  go_wp2_with fail
  refine (ZA.out _).mono ?_
  rintro e w2 ⟨rfl, k2⟩
  have B2 := Lib.hid (B1.out.no k2)
  clear c0 c1 c2 k2 B1
  obtain ⟨c0, c1, c2⟩ : _ ∧ _ ∧ _ := ⟨B2.out.c0, B2.out.c1, B2.out.c2⟩
  simp only at c0 c1 c2
  go_wp2_with fail
  refine (ZB.out _).mono ?_
  rintro e w3 ⟨rfl, k3⟩
  have B3 := Lib.hid (B2.out.no k3)
  clear c0 c1 c2 k3 B2
  cases is with
  | false => go_wp2_with fail; go_ret2; exact FIN.out _ B3.out.kp
  | true =>
    cases i1 with
    | false => go_wp2_with fail; go_ret2; exact FIN.out _ B3.out.kp
    | true =>
      cases i2 with
      | false => go_wp2_with fail; go_ret2; exact FIN.out _ B3.out.kp
      | true =>
        cases pl with
        | true => go_wp2_with fail; go_ret2; exact FIN.out _ B3.out.kp
        | false =>
          obtain rfl : pg = true := by simpa using hall
          clear hall
          go_wp2_with fail; go_ret2; exact FIN.out _ B3.out.kp
end Go.Proofs.YtmipnicdlldjnaaGreatDoor

namespace Go.Proofs.YtmipnicdlldjnaaGreatDoor
set_option linter.unusedVariables false
set_option linter.unusedSimpArgs false
open Go.RowKit

theorem goT_len (Q : List Nat) : (goT Q).length = Q.length := by unfold goT; rw [List.length_map]
theorem goT_snoc {Q : List Nat} {j c : Nat} (h : Q[j]? = some c) : goT (Q.take (j + 1)) = goT (Q.take j) ++ [⟨1, (c : Int), 0⟩] := by
  unfold goT; rw [List.take_add_one, h, List.map_append]; rfl
theorem flat_snoc (ms : List (List ActT)) (m : List ActT) : (ms ++ [m]).flatten = ms.flatten ++ m := by simp
theorem legs_snoc {P : Leg → List ActT → Prop} {ls : List Leg} {ms : List (List ActT)} {m : List ActT} {i : Nat} {g : Leg} (hi : ms.length = i) (hg : ls[i]? = some g) (hm : P g m)
    (h : ∀ (j : Nat) g x, ls[j]? = some g → ms[j]? = some x → P g x) : ∀ (j : Nat) g x, ls[j]? = some g → (ms ++ [m])[j]? = some x → P g x := by
  intro j g' x h1 h2
  rcases Nat.lt_trichotomy j i with hj | hj | hj
  · rw [List.getElem?_append_left (by omega)] at h2; exact h j g' x h1 h2
  · subst hj
    rw [List.getElem?_append_right (by omega), hi, Nat.sub_self] at h2
    simp at h2
    rw [hg] at h1; simp at h1; subst h1 h2; exact hm
  · have := (List.getElem?_eq_some_iff.1 h2).1; simp at this; omega
set_option maxHeartbeats 2000000 in
set_option maxRecDepth 100000 in
theorem tpMake_ok (f : Flr) (hsz : f.s.size ≤ 1000000) (robot pod : Int) (a b d : Nat) (hr : robot ≤ 9223372036854775807) {bv : Value} {B : List Int} {w : World} (hB : Rd IK w bv B) (hmk : makeB f robot pod a b = true) (hd : dockP f robot = some d) :
    Calls Tryz.prog 7 #[f.val, .int .i64 robot, .int .i64 pod, .int .i64 (a : Int), .int .i64 (b : Int), bv] w (MakeO f robot pod a b B w) := by
  have HBX := Lib.hid (BxW.new f w)
  have hm2 := hmk
  unfold makeB at hm2
  simp only [Bool.and_eq_true, Bool.not_eq_true'] at hm2
  obtain ⟨⟨⟨⟨_, ha⟩, hb⟩, hpl⟩, hpg⟩ := hm2
  obtain ⟨_, e1, ha1, ha2, ha3, ha4⟩ := zone_okT ha
  obtain ⟨_, e2, hb1, hb2, hb3, hb4⟩ := zone_okT hb
  obtain rfl := Int.ofNat.inj e1
  obtain rfl := Int.ofNat.inj e2
  obtain ⟨hd1, hd2, hd3, hd4⟩ := dock_okT hd
  have hR : RightP f := by obtain ⟨_, _, _, h⟩ := ptOk_nat hd3; exact h
  have hs256 : f.s.size ≤ 256 := hR.s256
  have LG := Lib.hid (show ∀ g ∈ legsT d a b, ptOk f g.1 = true ∧ opB f g.2.1 = true ∧ g.1 < f.s.size by
    intro g hg
    unfold legsT at hg
    simp only [List.mem_cons, List.not_mem_nil, or_false] at hg
    rcases hg with rfl | rfl | rfl
    · exact ⟨hd3, ha4, hd1⟩
    · exact ⟨ha3, hb4, ha1⟩
    · exact ⟨hb3, hd4, hb1⟩)
  have DO := Lib.hid (show ∀ w, Calls Tryz.prog 18 #[f.val, .int .i64 robot] w fun e w' => e = .returned (.tuple #[.int .i64 (d : Int), .bool true]) ∧ Kp No w w' from fun w => by
    have h1 := dock_any f (by omega) robot hr w
    rwa [hd] at h1)
  obtain ⟨z1, hz1⟩ := Option.isSome_iff_exists.1 ha
  obtain ⟨z2, hz2⟩ := Option.isSome_iff_exists.1 hb
  have ZA := Lib.hid (show ∀ w, Calls Tryz.prog 19 #[f.val, .int .i64 (a : Int)] w fun e w' => e = .returned (.tuple #[.int .i64 (z1 : Int), .bool true]) ∧ Kp No w w' from fun w => by
    have h1 := zone_any f (by omega) a (by omega) w
    rwa [hz1] at h1)
  have ZB := Lib.hid (show ∀ w, Calls Tryz.prog 19 #[f.val, .int .i64 (b : Int)] w fun e w' => e = .returned (.tuple #[.int .i64 (z2 : Int), .bool true]) ∧ Kp No w w' from fun w => by
    have h1 := zone_any f (by omega) b (by omega) w
    rwa [hz2] at h1)
  have FD := Lib.hid (fun (g : Leg) (hg : g ∈ legsT d a b) wx (hB : Rd IK wx bv B) => ptFind_any f hsz g.1 g.2.1 hB (LG.out g hg).1 (LG.out g hg).2.1)
  have SM := Lib.hid (show ∀ g ∈ legsT d a b, dst (stepsP f g.1 B) g.1 g.2.1 < f.s.size from fun g hg => dst_smallT (LG.out g hg).2.2 (fun u c hu hc => steps_sz hR hu hc))
  have FNO := Lib.hid (show ∀ w' (g : Leg), g ∈ legsT d a b → dst (stepsP f g.1 B) g.1 g.2.1 < 0 → Kp No w w' → MakeO f robot pod a b B w (.returned (.tuple #[.slice none 0 0, .int .i64 2])) w' from fun w' g hg hn hk => ⟨[], none, 0, 2, .no d a b g hmk hd rfl rfl hg hn, rfl, (NewS.nil _ _ _).kpNo hk⟩)
  have FOK := Lib.hid (show ∀ w' (ms : List (List ActT)) A q, ms.length = 3 → (∀ (j : Nat) g x, (legsT d a b)[j]? = some g → ms[j]? = some x → LegR f B pod g x) → NewS AcK 41 w w' (.slice A ms.flatten.length q) ms.flatten → MakeO f robot pod a b B w (.returned (.tuple #[.slice A ms.flatten.length q, .int .i64 0])) w' from fun w' ms A q hl h ns => by
    obtain ⟨m1, m2, m3, rfl⟩ : ∃ m1 m2 m3, ms = [m1, m2, m3] := by
      match ms, hl with
      | [m1, m2, m3], _ => exact ⟨m1, m2, m3, rfl⟩
    have e : [m1, m2, m3].flatten = m1 ++ m2 ++ m3 := by simp
    rw [e] at ns ⊢
    exact ⟨m1 ++ m2 ++ m3, A, q, 0, .ok d a b m1 m2 m3 hmk hd rfl rfl (h 0 _ _ rfl rfl) (h 1 _ _ rfl rfl) (h 2 _ _ rfl rfl), rfl, ns⟩)
  have HB := Lib.hid hB
  have H256 := Lib.hid hs256
  obtain ⟨LL, hLL⟩ : ∃ LL, LL = legsT d a b := ⟨_, rfl⟩
  have hl3 : LL.length = 3 := by rw [hLL]; rfl
  have HL3 := Lib.hid hl3
  have RL0 := Lib.hid (show ∀ w4 : World, Rd LeK (w4.alloc (.cells #[.int .i64 (d : Int), .int .i64 (a : Int), .int .u8 2, .int .i64 (a : Int), .int .i64 (b : Int), .int .u8 3, .int .i64 (b : Int), .int .i64 (d : Int), .int .u8 0] 44)) (.slice (some ⟨w4.heap.size, 0, none⟩) 3 3) LL from fun w4 => by
    rw [hLL]; exact Rd.litAt LeK 44 w4 _ _ rfl (by unfold maxLen; simp [legsT]) _ _ rfl rfl)
  rw [← hLL] at LG FD SM FNO FOK
  obtain ⟨F, hF⟩ : ∃ F, F = f := ⟨_, rfl⟩
  obtain ⟨X, Y, sb⟩ := f
  unfold Flr.val at DO ZA ZB FD ⊢
  simp only at DO ZA ZB FD ⊢
  clear hsz hr hB hmk hd ha hb e1 ha1 ha2 ha3 ha4 e2 hb1 hb2 hb3 hb4 hd1 hd2 hd3 hd4 hR hs256 hz1 hz2 hLL hl3 hF
  go_enter Tryz.func7, Tryz.ntmps7
  go_wp2_with fail
  refine (DO.out _).mono ?_
  rintro e w1 ⟨rfl, k1⟩
  have B1 := Lib.hid (HBX.out.no k1)
  obtain ⟨c0, c1, c2⟩ : _ ∧ _ ∧ _ := ⟨B1.out.c0, B1.out.c1, B1.out.c2⟩
  simp only at c0 c1 c2
  clear k1
  go_wp2_with fail
  refine (ZA.out _).mono ?_
  rintro e w2 ⟨rfl, k2⟩
  have B2 := Lib.hid (B1.out.no k2)
  clear c0 c1 c2 k2 B1
  obtain ⟨c0, c1, c2⟩ : _ ∧ _ ∧ _ := ⟨B2.out.c0, B2.out.c1, B2.out.c2⟩
  simp only at c0 c1 c2
  go_wp2_with fail
  refine (ZB.out _).mono ?_
  rintro e w3 ⟨rfl, k3⟩
  have B3 := Lib.hid (B2.out.no k3)
  clear c0 c1 c2 k3 B2
  have RL := Lib.hid (RL0.out w3)
  obtain ⟨wL, hwL⟩ : ∃ y : World, y = w3.alloc (.cells #[.int .i64 (d : Int), .int .i64 (a : Int), .int .u8 2, .int .i64 (a : Int), .int .i64 (b : Int), .int .u8 3, .int .i64 (b : Int), .int .i64 (d : Int), .int .u8 0] 44) := ⟨_, rfl⟩
  have HWL := Lib.hid hwL
  have BL := Lib.hid (show BxW ⟨X, Y, sb⟩ w.heap.size w wL by rw [hwL]; exact B3.out.no ((Kp.refl _ _).alloc _))
  rw [← hwL] at RL
  clear hwL
  go_wp2_with fail
  rw [← HWL.out]
  go_loopg [20, 74] 4 (fun g_ vv iv wx => ∃ (i m : Nat) (A : Option Addr) (q : Nat) (ms : List (List ActT)), g_ = 4 - i ∧ iv = .int .i64 (i : Int) ∧ i ≤ 3 ∧ vv = .slice A m q ∧ m = ms.flatten.length ∧ NewS AcK 41 wL wx vv ms.flatten ∧ ms.length = i ∧ (∀ (j : Nat) g x, LL[j]? = some g → ms[j]? = some x → LegR ⟨X, Y, sb⟩ B pod g x) ∧ m ≤ i * 300)
  case atStart => exact ⟨0, 0, none, 0, [], rfl, rfl, by omega, rfl, rfl, NewS.nil _ _ _, rfl, fun j g x _ h => by simp at h, by omega⟩
  case round =>
    obtain ⟨i, m, A, q, ms, hg, rfl, hi, rfl, hm, ns, hml, hlg, hmb⟩ := hrel
    have HM := Lib.hid hm; have NS := Lib.hid ns; have HML := Lib.hid hml; have HLG := Lib.hid hlg; have HMB := Lib.hid hmb
    clear hm ns hml hlg hmb
    by_cases hlt : i < 3
    · have hltI : (i : Int) < (3 : Int) := by omega
      have hwi : IntKind.i64.wrap ((i : Int) + 1) = (i : Int) + 1 := IntWalk.i64_in _ (by omega)
      obtain ⟨g, hleg⟩ : ∃ g, LL[i]? = some g := ⟨_, List.getElem?_eq_getElem (by rw [HL3.out]; exact hlt)⟩
      have HG := Lib.hid hleg
      have hmem := List.mem_of_getElem? hleg
      obtain ⟨x0, x1, x2, x3⟩ := (RL.out.kpNo NS.out.kp).legAt hleg
      simp only [Nat.zero_add] at x0 x1 x2 x3
      have BB := Lib.hid (BL.out.no NS.out.kp)
      have c0 := fun o => (BB.out.no ((Kp.refl No wr).alloc o)).c0
      have c1 := fun o => (BB.out.no ((Kp.refl No wr).alloc o)).c1
      have c2 := fun o => (BB.out.no ((Kp.refl No wr).alloc o)).c2
      simp only at c0 c1 c2
      have FX := Lib.hid (fun o => FD.out g hmem (wr.alloc o) (HB.out.kpNo (BB.out.kp.alloc o)))
      have SX := Lib.hid (SM.out g hmem)
      have FN := Lib.hid (fun w' => FNO.out w' g hmem)
      obtain ⟨g1, g2, g3⟩ := g
      simp only at x0 x1 x2 x3 FX
      obtain ⟨wb, hwb⟩ : ∃ y : World, y = wr.alloc (.cells #[.int .i64 (g1 : Int), .int .i64 (g2 : Int), .int .u8 (g3 : Int)] 44) := ⟨_, rfl⟩
      have HWB := Lib.hid hwb
      have FY := Lib.hid (FX.out (.cells #[.int .i64 (g1 : Int), .int .i64 (g2 : Int), .int .u8 (g3 : Int)] 44))
      rw [← hwb] at FY
      have XB := Lib.hid (show wb.heap[wr.heap.size]? = some (.cells #[.int .i64 (g1 : Int), .int .i64 (g2 : Int), .int .u8 (g3 : Int)] 44 (0, 0)) by rw [hwb]; exact blk_new _ _)
      have KA := Lib.hid (show Kp No wr wb by rw [hwb]; exact (Kp.refl _ _).alloc _)
      have HSB := Lib.hid (show wb.heap.size = wr.heap.size + 1 by rw [hwb]; simp)
      clear hwb hleg hmem hlt FX
      go_wp2_with fail
      rw [← HWB.out]
      refine FY.out.mono ?_
      rintro e w6 (⟨hneg, rfl, k6⟩ | ⟨Q, A6, q6, hdst, hfst, rfl, n6⟩)
      · have K6 := Lib.hid (show Kp No w w6 from (BB.out.kp.no KA.out).no k6)
        have HN := Lib.hid hneg
        clear hneg k6 x0 x1 x2 x3 c0 c1 c2
        go_wp2_with fail
        go_ret2
        exact FN.out _ HN.out K6.out
      · have hQ := SX.out
        rw [hdst] at hQ
        obtain ⟨nQ, hnQ⟩ : ∃ z, z = Q.length := ⟨_, rfl⟩
        have hQ256 : nQ ≤ 255 := by have := H256.out; omega
        rw [← hnQ] at n6
        have HNQ := Lib.hid hnQ; have HD := Lib.hid hdst; have HF := Lib.hid hfst; have N6 := Lib.hid n6; have HQ := Lib.hid hQ256
        have XB6 := Lib.hid (n6.kp.blk XB.out (no_no _))
        have O6 := Lib.hid (OutS.start ((NS.out.kpNo KA.out).kpNo n6.kp))
        have HAP := Lib.hid (show ∀ k, (Value.slice A m q).ownBlock = some k → k < wr.heap.size from fun k hk => NS.out.own.lt hk)
        have WY := Lib.hid (show ∀ wx, Kp (fun k => (Value.slice A m q).ownBlock = some k) w6 wx → Rd IK wx (.slice A6 nQ q6) (ints Q) from fun wx hk => n6.own.rd.kp hk fun k h1 h2 => by
          have := n6.ge k h1; have := HAP.out k h2; have := HSB.out; omega)
        have LX := Lib.hid (show ∀ wx, Kp (fun k => (Value.slice A m q).ownBlock = some k) w6 wx → wx.heap[wr.heap.size]? = some (.cells #[.int .i64 (g1 : Int), .int .i64 (g2 : Int), .int .u8 (g3 : Int)] 44 (0, 0)) from fun wx hk => hk.blk XB6.out fun h => by
          have := HAP.out _ h; omega)
        clear hdst hfst n6 hnQ hQ hQ256 x0 x1 x2 x3 c0 c1 c2
        rw [← HNQ.out]
        go_wp2_with fail
        go_loopg [20, 92] (nQ + 1) (fun gg vv jv wx => ∃ (j m2 : Nat) (A2 : Option Addr) (q2 : Nat), gg = nQ + 1 - j ∧ jv = .int .i64 (j : Int) ∧ j ≤ nQ ∧ vv = .slice A2 m2 q2 ∧ m2 = (ms.flatten ++ goT (Q.take j)).length ∧ OutS wL (.slice A m q) w6 wx vv (ms.flatten ++ goT (Q.take j)))
        case atStart => exact ⟨0, m, A, q, rfl, rfl, by omega, rfl, by rw [List.take_zero]; simp [goT, HM.out], by rw [List.take_zero]; simpa [goT] using O6.out⟩
        case round =>
          obtain ⟨j, m2, A2, q2, hg2, rfl, hj, rfl, hm2, o2⟩ := hrel
          have hmb2 : m2 ≤ m + 255 := by rw [hm2, List.length_append, ← HM.out, goT_len, List.length_take]; have := HQ.out; omega
          have HM2 := Lib.hid hm2; have O2 := Lib.hid o2
          clear hm2 o2
          by_cases hltj : j < nQ
          · have hltJ : (j : Int) < (nQ : Int) := by omega
            have hwj : IntKind.i64.wrap ((j : Int) + 1) = (j : Int) + 1 := IntWalk.i64_in _ (by have := HQ.out; omega)
            obtain ⟨c, hc⟩ : ∃ c, Q[j]? = some c := ⟨_, List.getElem?_eq_getElem (by rw [← HNQ.out]; exact hltj)⟩
            have hcI : (ints Q)[j]? = some (c : Int) := ints_get hc
            rcases WY.out _ O2.out.kp with ⟨_, he⟩ | ⟨gw, ow, capw, hv, _⟩
            · have := HNQ.out; have he2 := congrArg List.length he; rw [ints_len, List.length_nil] at he2; omega
            simp only [Value.slice.injEq] at hv
            obtain ⟨rfl, hzz, rfl⟩ := hv
            have hcc := (WY.out _ O2.out.kp).intAt hcI
            have HS := Lib.hid (goT_snoc hc)
            clear hc hcI hzz hltj
            go_wp2_with (at_builtin; refine wpl_snocA (y := ⟨1, (c : Int), 0⟩) rfl (.tmp 96) (.tmp 99) rfl rfl rfl rfl rfl rfl rfl O2.out HM2.out (by have := HMB.out; omega) ?_; intro A3 q3 w7 o7; have O7 := Lib.hid o7; clear o7 hcc)
            go_roundg (nQ + 1 - (j + 1))
            case measure => omega
            case rel => exact ⟨j + 1, m2 + 1, A3, q3, rfl, by go_num, by omega, rfl, by rw [HS.out, ← List.append_assoc, List.length_append, ← HM2.out]; rfl, by rw [HS.out, ← List.append_assoc]; exact O7.out⟩
          · obtain rfl : nQ = j := by omega
            have hd0 : ¬ (nQ : Int) < (nQ : Int) := by omega
            have HT := Lib.hid (show goT (Q.take nQ) = goT Q by rw [HNQ.out, List.take_length])
            have lb := LX.out _ O2.out.kp
            have l1 := blk_cell lb 1
            have l2 := blk_cell lb 2
            clear lb hltj
            by_cases h3 : g3 = 0
            · have h3b : ((g3 : Int) != 0) = false := by simp [h3]
              have HLR := Lib.hid (legs_snoc (m := goT Q) HML.out HG.out ⟨Q, HD.out, HF.out, by simp [h3]⟩ HLG.out)
              clear h3
              go_wp2_with fail
              go_roundg (4 - (i + 1))
              case measure => omega
              case rel => exact ⟨i + 1, m2, A2, q2, ms ++ [goT Q], rfl, by go_num, by omega, rfl, by rw [flat_snoc, ← HT.out]; exact HM2.out, by rw [flat_snoc, ← HT.out]; exact O2.out.ns, by rw [List.length_append, HML.out]; rfl, HLR.out, by have := HMB.out; omega⟩
            · have h3b : ((g3 : Int) != 0) = true := by simp; omega
              have HLR := Lib.hid (legs_snoc (m := goT Q ++ [⟨g3, (g2 : Int), pod⟩]) HML.out HG.out ⟨Q, HD.out, HF.out, by simp [h3]⟩ HLG.out)
              clear h3
              go_wp2_with (at_builtin; refine wpl_snocA (y := ⟨g3, (g2 : Int), pod⟩) rfl (.tmp 105) (.tmp 112) rfl rfl rfl rfl rfl rfl rfl O2.out HM2.out (by have := HMB.out; omega) ?_; intro A3 q3 w7 o7; have O7 := Lib.hid o7; clear o7)
              go_roundg (4 - (i + 1))
              case measure => omega
              case rel => exact ⟨i + 1, m2 + 1, A3, q3, ms ++ [goT Q ++ [⟨g3, (g2 : Int), pod⟩]], rfl, by go_num, by omega, rfl, by rw [flat_snoc, ← List.append_assoc, ← HT.out, List.length_append, ← HM2.out]; rfl, by rw [flat_snoc, ← List.append_assoc, ← HT.out]; exact O7.out.ns, by rw [List.length_append, HML.out]; rfl, HLR.out, by have := HMB.out; omega⟩
    · obtain rfl : i = 3 := by omega
      have hF := FOK.out wr ms A q HML.out HLG.out (by rw [← HM.out]; exact NS.out.from_ BL.out.kp)
      rw [← HM.out] at hF
      have HF := Lib.hid hF
      clear hlt hF
      go_wp2_with fail
      go_ret2
      exact HF.out
end Go.Proofs.YtmipnicdlldjnaaGreatDoor

namespace Go.Proofs.YtmipnicdlldjnaaGreatDoor
set_option linter.unusedVariables false
set_option linter.unusedSimpArgs false
open Go.RowKit

theorem dst_leT {st : Nat → List Nat} {s k c : Nat} (hw : Wk st s k c) : 0 ≤ dst st s c ∧ dst st s c ≤ (k : Int) := by
  rcases dst_isD st s c with ⟨_, h⟩ | ⟨j, e, _, hl⟩
  · exact absurd hw (h k)
  · have := hl k hw; omega
theorem fst_walkT {st : Nat → List Nat} {s g : Nat} {Q : List Nat} (h : FstW st s g Q) : ∀ k, k ≤ Q.length → Wk st s k (nd s Q k) := by
  intro k
  induction k with
  | zero => intro _; exact .nil
  | succ k ih =>
    intro hk
    obtain ⟨b, hb⟩ : ∃ b, Q[k]? = some b := ⟨_, List.getElem?_eq_getElem (by omega)⟩
    obtain ⟨_, m, hm, _⟩ := h.at_ k b hb
    rw [nd_succ hb]
    exact .step (ih (by omega)) (List.mem_of_getElem? hm)
theorem wk_transT {st : Nat → List Nat} {a b c k j : Nat} (h : Wk st a k b) (h2 : Wk st b j c) : Wk st a (k + j) c := by
  induction h2 with
  | nil => exact h
  | step _ hc ih => exact .step ih hc
theorem nd_apartT {st : Nat → List Nat} {s g : Nat} {Q : List Nat} (h : FstW st s g Q) (hd : dst st s g = (Q.length : Int)) {i k b : Nat} (hb : Q[k]? = some b) (hi : i ≤ k) : nd s Q i ≠ b := by
  intro e
  have hl := (List.getElem?_eq_some_iff.1 hb).1
  have w1 := fst_walkT h i (by omega)
  rw [e] at w1
  have w2 := (h.at_ k b hb).1
  have := dst_leT (wk_transT w1 w2)
  omega
theorem steps_nearT {f : Flr} {fr : Nat} {B : List Int} {u c : Nat} (h : c ∈ stepsP f fr B u) : c ∈ nearP f u ∧ ¬ (c : Int) ∈ B ∧ (u = fr ∨ kdS f.s u = 2) := by
  unfold stepsP at h
  split at h
  · simp at h
  · rename_i hn
    rw [List.mem_filter] at h
    refine ⟨h.1, by simpa using h.2, ?_⟩
    by_cases h1 : u = fr
    · exact .inl h1
    · by_cases h2 : kdS f.s u = 2
      · exact .inr h2
      · exact absurd ⟨h1, h2⟩ hn
/-- A leg's cells. -/
theorem leg_cells {f : Flr} {B : List Int} {fr tg : Nat} {Q : List Nat} (h : FstW (stepsP f fr B) fr tg Q) (hd : dst (stepsP f fr B) fr tg = (Q.length : Int)) {k b : Nat} (hb : Q[k]? = some b) :
    b ∈ nearP f (nd fr Q k : Nat) ∧ ¬ (b : Int) ∈ B ∧ (k + 1 < Q.length → kdS f.s b = 2) ∧ (k + 1 = Q.length → b = tg) := by
  obtain ⟨_, m, hm, _⟩ := h.at_ k b hb
  obtain ⟨h1, h2, _⟩ := steps_nearT (List.mem_of_getElem? hm)
  refine ⟨h1, h2, fun hk => ?_, fun hk => ?_⟩
  · obtain ⟨c, hc⟩ : ∃ c, Q[k + 1]? = some c := ⟨_, List.getElem?_eq_getElem hk⟩
    obtain ⟨_, m2, hm2, _⟩ := h.at_ (k + 1) c hc
    obtain ⟨_, _, h3⟩ := steps_nearT (List.mem_of_getElem? hm2)
    rw [nd_succ hb] at h3
    rcases h3 with h3 | h3
    · exact absurd (show nd fr Q 0 = b from h3.symm) (nd_apartT h hd hb (Nat.zero_le _))
    · exact h3
  · have := h.en
    rw [← hk, nd_succ hb] at this
    exact this
theorem run_goT {f : Flr} {d : Int} {at_ : Nat} {pod : Int} {st : Bool} {Q : List Nat} (h : ∀ k b, Q[k]? = some b → b ∈ nearP f (nd at_ Q k : Nat) ∧ (laneB f b = true ∨ (b : Int) = d)) :
    ∀ j, j ≤ Q.length → runP f d ⟨at_, pod, st⟩ (goT (Q.take j)) = some ⟨(nd at_ Q j : Nat), pod, st⟩ := by
  intro j
  induction j with
  | zero => intro _; rfl
  | succ j ih =>
    intro hj
    obtain ⟨b, hb⟩ : ∃ b, Q[j]? = some b := ⟨_, List.getElem?_eq_getElem (by omega)⟩
    obtain ⟨h1, h2⟩ := h j b hb
    rw [goT_snoc hb, runP_snoc, ih (by omega), Option.bind_some, nd_succ hb]
    unfold doesP
    rw [if_pos rfl, if_pos]
    unfold goB
    simp only [Bool.and_eq_true, decide_eq_true_eq, Bool.or_eq_true]
    refine ⟨⟨trivial, ?_⟩, h2⟩
    unfold ints
    exact List.mem_map.2 ⟨b, h1, rfl⟩
theorem lane_of {f : Flr} {c : Nat} (hr : rightB f = true) (hc : c < f.s.size) (hk : kdS f.s c = 2) : laneB f c = true := by
  unfold laneB zoneP
  rw [if_pos]
  · rfl
  unfold isB
  simp [hr, hk]; omega
end Go.Proofs.YtmipnicdlldjnaaGreatDoor

namespace Go.Proofs.YtmipnicdlldjnaaGreatDoor
set_option linter.unusedVariables false
set_option linter.unusedSimpArgs false
open Go.RowKit

/-- One leg runs. -/
theorem run_leg {f : Flr} {B : List Int} {d fr tg : Nat} {Q : List Nat} (r : rightB f = true) (hfr : fr < f.s.size) (h : FstW (stepsP f fr B) fr tg Q) (hd : dst (stepsP f fr B) fr tg = (Q.length : Int)) (ht : laneB f tg = true ∨ tg = d) (pod : Int) (st : Bool) :
    runP f (d : Int) ⟨(fr : Int), pod, st⟩ (goT Q) = some ⟨(tg : Int), pod, st⟩ := by
  have hR := rightB_iff.1 r
  have key : ∀ k b, Q[k]? = some b → b ∈ nearP f (nd fr Q k : Nat) ∧ (laneB f b = true ∨ (b : Int) = (d : Int)) := by
    intro k b hb
    obtain ⟨h1, _, h3, h4⟩ := leg_cells h hd hb
    refine ⟨h1, ?_⟩
    have hk := (List.getElem?_eq_some_iff.1 hb).1
    rcases Nat.lt_or_ge (k + 1) Q.length with hl | hl
    · refine .inl (lane_of r ?_ (h3 hl))
      have w := fst_walkT h (k + 1) (by omega)
      rw [nd_succ hb] at w
      have : ∀ {j c}, Wk (stepsP f fr B) fr j c → c < f.s.size := by
        intro j c hw
        induction hw with
        | nil => exact hfr
        | step _ hc ih => exact steps_sz hR ih hc
      exact this w
    · rw [h4 (by omega)]
      rcases ht with ht | ht
      · exact .inl ht
      · exact .inr (by rw [ht])
  have := run_goT (st := st) (pod := pod) key Q.length (Nat.le_refl _)
  rw [List.take_length, h.en] at this
  exact this
theorem lift_T {f : Flr} {d c : Int} {pod : Int} {st : Bool} (hl : laneB f c = true) (h0 : 0 ≤ pod) (h1 : pod < 64) : runP f d ⟨c, -1, st⟩ [⟨2, c, pod⟩] = some ⟨c, pod, true⟩ := by
  rw [runP]
  unfold doesP
  rw [if_neg (show ¬ (2 : Nat) = 1 by decide), if_pos rfl, if_pos]
  · rfl
  unfold hereB
  simp [hl, h0, h1]
theorem drop_T {f : Flr} {d c : Int} {pod : Int} (hl : laneB f c = true) (h0 : 0 ≤ pod) (h1 : pod < 64) : runP f d ⟨c, pod, true⟩ [⟨3, c, pod⟩] = some ⟨c, -1, true⟩ := by
  rw [runP]
  unfold doesP
  rw [if_neg (show ¬ (3 : Nat) = 1 by decide), if_neg (show ¬ (3 : Nat) = 2 by decide), if_pos rfl, if_pos]
  · rfl
  unfold hereB dropB
  have h2 : ¬ pod < 0 := by omega
  simp [hl, h0, h1, h2]
theorem run_then {f : Flr} {d : Int} {s t : WkS} {l m : List ActT} (h : runP f d s l = some t) : runP f d s (l ++ m) = runP f d t m := by rw [runP_append, h]; rfl
/-- A made trip. -/
structure TripW (f : Flr) (robot pod : Int) (a b d : Nat) (B : List Int) (Q1 Q2 Q3 : List Nat) : Prop where
  dk : dockP f robot = some d
  r : rightB f = true
  p0 : 0 ≤ pod
  p1 : pod < 64
  za : laneB f a = true
  zb : laneB f b = true
  d1 : dst (stepsP f d B) d a = (Q1.length : Int)
  d2 : dst (stepsP f a B) a b = (Q2.length : Int)
  d3 : dst (stepsP f b B) b d = (Q3.length : Int)
  f1 : FstW (stepsP f d B) d a Q1
  f2 : FstW (stepsP f a B) a b Q2
  f3 : FstW (stepsP f b B) b d Q3
def tripT (pod : Int) (a b : Nat) (Q1 Q2 Q3 : List Nat) : List ActT := (goT Q1 ++ [⟨2, (a : Int), pod⟩]) ++ (goT Q2 ++ [⟨3, (b : Int), pod⟩]) ++ goT Q3
theorem made_trip {f : Flr} {robot pod fr tg : Int} {B : List Int} {out : List ActT} {er : Int} (h : MadeR f robot pod fr tg B out er) (he : er = 0) :
    ∃ (a b d : Nat) (Q1 Q2 Q3 : List Nat), fr = a ∧ tg = b ∧ out = tripT pod a b Q1 Q2 Q3 ∧ TripW f robot pod a b d B Q1 Q2 Q3 := by
  cases h with
  | arg _ => cases he
  | no _ _ _ _ _ _ _ _ _ _ => cases he
  | ok d a b m1 m2 m3 hm hd ha hb h1 h2 h3 =>
    subst ha hb
    unfold makeB at hm
    simp only [Bool.and_eq_true, Bool.not_eq_true', decide_eq_false_iff_not] at hm
    obtain ⟨⟨⟨⟨_, ha⟩, hb⟩, hp0⟩, hp1⟩ := hm
    obtain ⟨Q1, e1, f1, rfl⟩ := h1
    obtain ⟨Q2, e2, f2, rfl⟩ := h2
    obtain ⟨Q3, e3, f3, rfl⟩ := h3
    obtain ⟨_, _, hdo, _⟩ := dock_okT hd
    refine ⟨a, b, d, Q1, Q2, Q3, rfl, rfl, ?_, ⟨hd, ?_, by omega, by omega, ha, hb, e1, e2, e3, f1, f2, f3⟩⟩
    · unfold tripT; simp
    · unfold ptOk at hdo; simp only [Bool.and_eq_true] at hdo; exact hdo.1.2
theorem TripW.lens {f : Flr} {robot pod : Int} {a b d : Nat} {B : List Int} {Q1 Q2 Q3 : List Nat} (t : TripW f robot pod a b d B Q1 Q2 Q3) : a < f.s.size ∧ b < f.s.size ∧ d < f.s.size ∧ Q1.length < 256 ∧ Q2.length < 256 ∧ Q3.length < 256 := by
  have hR := rightB_iff.1 t.r
  have h256 : f.s.size ≤ 256 := hR.s256
  obtain ⟨_, e1, ha, _⟩ := zone_okT t.za
  obtain ⟨_, e2, hb, _⟩ := zone_okT t.zb
  obtain rfl := Int.ofNat.inj e1
  obtain rfl := Int.ofNat.inj e2
  have hd := (dock_okT t.dk).1
  have x1 := dst_smallT (c := a) hd (fun u c hu hc => steps_sz (B := B) (fr := d) hR hu hc)
  have x2 := dst_smallT (c := b) ha (fun u c hu hc => steps_sz (B := B) (fr := a) hR hu hc)
  have x3 := dst_smallT (c := d) hb (fun u c hu hc => steps_sz (B := B) (fr := b) hR hu hc)
  rw [t.d1] at x1; rw [t.d2] at x2; rw [t.d3] at x3
  exact ⟨ha, hb, hd, by omega, by omega, by omega⟩
theorem TripW.run {f : Flr} {robot pod : Int} {a b d : Nat} {B : List Int} {Q1 Q2 Q3 : List Nat} (t : TripW f robot pod a b d B Q1 Q2 Q3) :
    runP f (d : Int) ⟨(d : Int), -1, false⟩ (tripT pod a b Q1 Q2 Q3) = some ⟨(d : Int), -1, true⟩ := by
  obtain ⟨ha, hb, hd, _, _, _⟩ := t.lens
  unfold tripT
  have s1 := run_leg (d := d) t.r hd t.f1 t.d1 (.inl t.za) (-1) false
  have s2 := run_leg (d := d) t.r ha t.f2 t.d2 (.inl t.zb) pod true
  have s3 := run_leg (d := d) t.r hb t.f3 t.d3 (.inr rfl) (-1) true
  have e1 := (run_then (m := [⟨2, (a : Int), pod⟩]) s1).trans (lift_T t.za t.p0 t.p1)
  have e2 := (run_then (m := [⟨3, (b : Int), pod⟩]) s2).trans (drop_T t.zb t.p0 t.p1)
  rw [List.append_assoc, run_then e1, run_then e2, s3]
theorem tripT_len (pod : Int) (a b : Nat) (Q1 Q2 Q3 : List Nat) : (tripT pod a b Q1 Q2 Q3).length = Q1.length + Q2.length + Q3.length + 2 := by
  unfold tripT; simp [goT_len]; omega
theorem TripW.right {f : Flr} {robot pod : Int} {a b d : Nat} {B : List Int} {Q1 Q2 Q3 : List Nat} (t : TripW f robot pod a b d B Q1 Q2 Q3) : rightT f robot (d : Int) (tripT pod a b Q1 Q2 Q3) = true := by
  obtain ⟨_, _, _, h1, h2, h3⟩ := t.lens
  unfold rightT
  rw [t.dk]
  simp only [t.run, tripT_len]
  simp; omega
/-- The same walker, but for what it knows. -/
def Sim (s s' : WkS) : Prop := s'.at_ = s.at_ ∧ ((s'.pod = s.pod ∧ s'.st = s.st) ∨ (s'.pod = -1 ∧ s'.st = false))
theorem Sim.does {f : Flr} {d : Int} {s s' t : WkS} {x : ActT} (h : Sim s s') (hd : doesP f d s x = some t) : ∃ t', doesP f d s' x = some t' ∧ Sim t t' := by
  obtain ⟨ca, cp, cs⟩ := s
  obtain ⟨ca', cp', cs'⟩ := s'
  obtain ⟨h1, h2⟩ := h
  simp only at h1 h2
  subst h1
  rcases h2 with ⟨rfl, rfl⟩ | ⟨rfl, rfl⟩
  · exact ⟨t, hd, rfl, .inl ⟨rfl, rfl⟩⟩
  unfold doesP at hd ⊢
  split at hd
  · rename_i hk
    rw [if_pos hk]
    have e : goB f d ⟨ca', -1, false⟩ x = goB f d ⟨ca', cp, cs⟩ x := rfl
    rw [e]
    split at hd <;> cases hd
    rename_i hg
    rw [if_pos hg]
    exact ⟨_, rfl, rfl, .inr ⟨rfl, rfl⟩⟩
  · rename_i hk
    rw [if_neg hk]
    have e : hereB f ⟨ca', -1, false⟩ x = hereB f ⟨ca', cp, cs⟩ x := rfl
    split at hd
    · rename_i hk2
      rw [if_pos hk2, e]
      split at hd <;> cases hd
      rename_i hg
      rw [if_pos ⟨by simp, hg.2⟩]
      exact ⟨_, rfl, rfl, .inl ⟨rfl, rfl⟩⟩
    · rename_i hk2
      rw [if_neg hk2]
      split at hd
      · rename_i hk3
        rw [if_pos hk3, e]
        split at hd <;> cases hd
        rename_i hg
        rw [if_pos ⟨hg.1, by unfold dropB; simp⟩]
        exact ⟨_, rfl, rfl, .inl ⟨rfl, rfl⟩⟩
      · cases hd
theorem Sim.run {f : Flr} {d : Int} : ∀ (l : List ActT) {s s' t : WkS}, Sim s s' → runP f d s l = some t → ∃ t', runP f d s' l = some t' ∧ Sim t t' := by
  intro l
  induction l with
  | nil => intro s s' t h hr; rw [runP] at hr; cases hr; exact ⟨s', rfl, h⟩
  | cons x l ih =>
    intro s s' t h hr
    rw [runP] at hr
    cases hd : doesP f d s x with
    | none => rw [hd] at hr; cases hr
    | some u =>
      rw [hd] at hr
      obtain ⟨u', e, hs⟩ := h.does hd
      obtain ⟨t', e2, hs2⟩ := ih hs hr
      exact ⟨t', by rw [runP, e]; exact e2, hs2⟩
end Go.Proofs.YtmipnicdlldjnaaGreatDoor

namespace Go.Proofs.YtmipnicdlldjnaaGreatDoor
set_option linter.unusedVariables false
set_option linter.unusedSimpArgs false
open Go.RowKit

theorem goT_mem {Q : List Nat} {x : ActT} (h : x ∈ goT Q) : ∃ (k b : Nat), Q[k]? = some b ∧ x = ⟨1, (b : Int), 0⟩ := by
  unfold goT at h
  obtain ⟨b, hb, rfl⟩ := List.mem_map.1 h
  obtain ⟨k, hk⟩ := List.getElem?_of_mem hb
  exact ⟨k, b, hk, rfl⟩
theorem wk_sizeT {f : Flr} {B : List Int} {fr : Nat} (r : rightB f = true) (hfr : fr < f.s.size) {j c : Nat} (hw : Wk (stepsP f fr B) fr j c) : c < f.s.size := by
  induction hw with
  | nil => exact hfr
  | step _ hc ih => exact steps_sz (rightB_iff.1 r) ih hc
/-- A leg's acts: not blocked; lanes, but for the end. -/
theorem leg_acts {f : Flr} {B : List Int} {fr tg : Nat} {Q : List Nat} (r : rightB f = true) (hfr : fr < f.s.size) (h : FstW (stepsP f fr B) fr tg Q) (hd : dst (stepsP f fr B) fr tg = (Q.length : Int)) {k b : Nat} (hb : Q[k]? = some b) :
    ¬ (b : Int) ∈ B ∧ (k + 1 < Q.length → laneB f b = true) ∧ (k + 1 = Q.length → b = tg) := by
  obtain ⟨_, h2, h3, h4⟩ := leg_cells h hd hb
  have hk := (List.getElem?_eq_some_iff.1 hb).1
  have w := fst_walkT h (k + 1) (by omega)
  rw [nd_succ hb] at w
  exact ⟨h2, fun hl => lane_of r (wk_sizeT r hfr w) (h3 hl), h4⟩
theorem leg_lanes {f : Flr} {B : List Int} {fr tg : Nat} {Q : List Nat} (r : rightB f = true) (hfr : fr < f.s.size) (h : FstW (stepsP f fr B) fr tg Q) (hd : dst (stepsP f fr B) fr tg = (Q.length : Int)) (ht : laneB f tg = true) {x : ActT} (hx : x ∈ goT Q) : laneB f x.c = true := by
  obtain ⟨k, b, hb, rfl⟩ := goT_mem hx
  have hk := (List.getElem?_eq_some_iff.1 hb).1
  obtain ⟨_, h2, h3⟩ := leg_acts r hfr h hd hb
  rcases Nat.lt_or_ge (k + 1) Q.length with hl | hl
  · exact h2 hl
  · rw [h3 (by omega)]; exact ht
theorem leg_free {f : Flr} {B : List Int} {fr tg : Nat} {Q : List Nat} (h : FstW (stepsP f fr B) fr tg Q) (hd : dst (stepsP f fr B) fr tg = (Q.length : Int)) {x : ActT} (hx : x ∈ goT Q) : ¬ x.c ∈ B := by
  obtain ⟨k, b, hb, rfl⟩ := goT_mem hx
  exact (leg_cells h hd hb).2.1
theorem dock_laneT {f : Flr} {robot : Int} {d : Nat} (h : dockP f robot = some d) : laneB f d = false := by
  obtain ⟨_, hk, _, _⟩ := dock_okT h
  cases hl : laneB f d with
  | false => rfl
  | true =>
    obtain ⟨_, e, _, h2, _⟩ := zone_okT (show (zoneP f (d : Int)).isSome = true from hl)
    obtain rfl := Int.ofNat.inj e
    omega
theorem TripW.goes {f : Flr} {robot pod : Int} {a b d : Nat} {B : List Int} {Q1 Q2 Q3 : List Nat} (t : TripW f robot pod a b d B Q1 Q2 Q3) :
    laneB f d = false ∧ (∀ x ∈ tripT pod a b Q1 Q2 Q3, x.k = 1 → ¬ x.c ∈ B) ∧ ∃ init, tripT pod a b Q1 Q2 Q3 = init ++ [⟨1, (d : Int), 0⟩] ∧ ∀ x ∈ init, x.k = 1 → laneB f x.c = true := by
  obtain ⟨ha, hb, hd, _, _, _⟩ := t.lens
  have hdl := dock_laneT t.dk
  refine ⟨hdl, ?_, ?_⟩
  · intro x hx hk
    unfold tripT at hx
    simp only [List.mem_append, List.mem_singleton] at hx
    rcases hx with ((hx | rfl) | (hx | rfl)) | hx
    · exact leg_free t.f1 t.d1 hx
    · exact absurd hk (show ¬ (2 : Nat) = 1 by decide)
    · exact leg_free t.f2 t.d2 hx
    · exact absurd hk (show ¬ (3 : Nat) = 1 by decide)
    · exact leg_free t.f3 t.d3 hx
  · have hne : Q3.length ≠ 0 := by
      intro h0
      have h1 := t.f3.en
      rw [h0] at h1
      have e : b = d := h1
      have := t.zb
      rw [e, hdl] at this
      cases this
    have hq : Q3 = Q3.take (Q3.length - 1) ++ [d] := by
      obtain ⟨c, hc⟩ : ∃ c, Q3[Q3.length - 1]? = some c := ⟨_, List.getElem?_eq_getElem (by omega)⟩
      have h3 := (leg_acts t.r hb t.f3 t.d3 hc).2.2 (by omega)
      rw [h3] at hc
      have := List.take_add_one (l := Q3) (i := Q3.length - 1)
      rw [show Q3.length - 1 + 1 = Q3.length by omega, List.take_length, hc] at this
      exact this
    refine ⟨(goT Q1 ++ [⟨2, (a : Int), pod⟩]) ++ (goT Q2 ++ [⟨3, (b : Int), pod⟩]) ++ goT (Q3.take (Q3.length - 1)), ?_, ?_⟩
    · unfold tripT
      have : goT Q3 = goT (Q3.take (Q3.length - 1)) ++ [⟨1, (d : Int), 0⟩] := by
        conv => lhs; rw [hq]
        unfold goT; rw [List.map_append]; rfl
      rw [this]; simp
    · intro x hx hk
      simp only [List.mem_append, List.mem_singleton] at hx
      rcases hx with ((hx | rfl) | (hx | rfl)) | hx
      · exact leg_lanes t.r hd t.f1 t.d1 t.za hx
      · exact absurd hk (show ¬ (2 : Nat) = 1 by decide)
      · exact leg_lanes t.r ha t.f2 t.d2 t.zb hx
      · exact absurd hk (show ¬ (3 : Nat) = 1 by decide)
      · obtain ⟨k, c, hc, rfl⟩ := goT_mem hx
        have hk2 := (List.getElem?_eq_some_iff.1 hc).1
        rw [List.length_take] at hk2
        rw [List.getElem?_take_of_lt (by omega)] at hc
        exact (leg_acts t.r hb t.f3 t.d3 hc).2.1 (by omega)
theorem TripW.small {f : Flr} {robot pod : Int} {a b d : Nat} {B : List Int} {Q1 Q2 Q3 : List Nat} (t : TripW f robot pod a b d B Q1 Q2 Q3) (hs : f.s.size ≤ 9223372036854775807) : ∀ x ∈ tripT pod a b Q1 Q2 Q3, x.c ≤ 9223372036854775807 := by
  obtain ⟨ha, hb, hd, _, _, _⟩ := t.lens
  have go : ∀ {fr tg : Nat} {Q : List Nat}, fr < f.s.size → FstW (stepsP f fr B) fr tg Q → ∀ x ∈ goT Q, x.c ≤ 9223372036854775807 := by
    intro fr tg Q hfr h x hx
    obtain ⟨k, c, hc, rfl⟩ := goT_mem hx
    have hk := (List.getElem?_eq_some_iff.1 hc).1
    have w := fst_walkT h (k + 1) (by omega)
    rw [nd_succ hc] at w
    have := wk_sizeT t.r hfr w
    show (c : Int) ≤ _
    omega
  intro x hx
  unfold tripT at hx
  simp only [List.mem_append, List.mem_singleton] at hx
  rcases hx with ((hx | rfl) | (hx | rfl)) | hx
  · exact go hd t.f1 x hx
  · show (a : Int) ≤ _; omega
  · exact go ha t.f2 x hx
  · show (b : Int) ≤ _; omega
  · exact go hb t.f3 x hx
theorem costT_goT (Q : List Nat) : costT (goT Q) = Q.length := by
  unfold costT
  rw [List.filter_eq_self.2, goT_len]
  intro x hx
  obtain ⟨k, b, _, rfl⟩ := goT_mem hx
  rfl
theorem costT_app (l m : List ActT) : costT (l ++ m) = costT l + costT m := by unfold costT; rw [List.filter_append, List.length_append]
theorem costT_trip (pod : Int) (a b : Nat) (Q1 Q2 Q3 : List Nat) : costT (tripT pod a b Q1 Q2 Q3) = Q1.length + Q2.length + Q3.length := by
  unfold tripT
  have e2 : costT [(⟨2, (a : Int), pod⟩ : ActT)] = 0 := rfl
  have e3 : costT [(⟨3, (b : Int), pod⟩ : ActT)] = 0 := rfl
  simp only [costT_app, costT_goT, e2, e3]
  omega
/-- Where a robot stands behind acts. -/
def atT : Int → List ActT → Int
  | c, [] => c
  | c, x :: l => atT (if x.k = 1 then x.c else c) l
theorem atT_snoc (c : Int) (l : List ActT) (x : ActT) : atT c (l ++ [x]) = if x.k = 1 then x.c else atT c l := by
  induction l generalizing c with
  | nil => rfl
  | cons y l ih => exact ih _
theorem doesP_at {f : Flr} {d : Int} {s t : WkS} {x : ActT} (h : doesP f d s x = some t) : t.at_ = if x.k = 1 then x.c else s.at_ := by
  unfold doesP at h
  split at h
  · rename_i hk; rw [if_pos hk]; split at h <;> cases h; rfl
  · rename_i hk
    rw [if_neg hk]
    split at h
    · split at h <;> cases h; rfl
    · split at h
      · split at h <;> cases h; rfl
      · cases h
theorem runP_atT {f : Flr} {d : Int} : ∀ (l : List ActT) {s t : WkS}, runP f d s l = some t → t.at_ = atT s.at_ l := by
  intro l
  induction l with
  | nil => intro s t h; rw [runP] at h; cases h; rfl
  | cons x l ih =>
    intro s t h
    rw [runP] at h
    cases hd : doesP f d s x with
    | none => rw [hd] at h; cases h
    | some u =>
      rw [hd] at h
      rw [ih h, doesP_at hd]; rfl
/-- What is left of right acts is right. -/
theorem left_right {f : Flr} {robot : Int} {d : Nat} {l : List ActT} {t : WkS} (hd : dockP f robot = some d) (h : runP f (d : Int) ⟨(d : Int), -1, false⟩ l = some t) (ht : t.at_ = d) (hp : t.pod < 0) (hl : l.length ≤ 1024) (k : Nat) (hk : k ≤ l.length) :
    rightT f robot (atT d (l.take k)) (l.drop k) = true := by
  rw [← List.take_append_drop k l, runP_append] at h
  cases hs : runP f (d : Int) ⟨(d : Int), -1, false⟩ (l.take k) with
  | none => rw [hs] at h; cases h
  | some s =>
    rw [hs, Option.bind_some] at h
    have ha := runP_atT _ hs
    have hsim : Sim s ⟨s.at_, -1, false⟩ := ⟨rfl, .inr ⟨rfl, rfl⟩⟩
    obtain ⟨t', e, h1, h2⟩ := hsim.run _ h
    have hpl : ∀ j, j ≤ k → ∀ u, runP f (d : Int) ⟨(d : Int), -1, false⟩ (l.take j) = some u → laneB f u.at_ = true ∨ u.at_ = d := by
      intro j
      induction j with
      | zero => intro _ u hu; rw [List.take_zero, runP] at hu; cases hu; exact .inr rfl
      | succ j ih =>
        intro hj u hu
        obtain ⟨x, hx⟩ : ∃ x, l[j]? = some x := ⟨_, List.getElem?_eq_getElem (by omega)⟩
        rw [runP_at hx] at hu
        cases hv : runP f (d : Int) ⟨(d : Int), -1, false⟩ (l.take j) with
        | none => rw [hv] at hu; cases hu
        | some v =>
          rw [hv, Option.bind_some] at hu
          have e := doesP_at hu
          by_cases hk1 : x.k = 1
          · rw [if_pos hk1] at e
            unfold doesP at hu
            rw [if_pos hk1] at hu
            split at hu
            · rename_i hg
              unfold goB at hg
              simp only [Bool.and_eq_true, Bool.or_eq_true, decide_eq_true_eq] at hg
              rw [e]; exact hg.2
            · cases hu
          · rw [if_neg hk1] at e
            rw [e]; exact ih (by omega) v hv
    have hlane := hpl k (Nat.le_refl _) s hs
    unfold rightT
    rw [hd]
    have hat : atT (d : Int) (l.take k) = s.at_ := ha.symm
    simp only [hat, e]
    have hb1 : (laneB f s.at_ || decide (s.at_ = (d : Int))) = true := by simpa using hlane
    have hb2 : (l.drop k).length ≤ 1024 := by rw [List.length_drop]; omega
    have hb3 : t'.at_ = (d : Int) := by rw [h1]; exact ht
    have hb4 : t'.pod < 0 := by rcases h2 with ⟨e2, _⟩ | ⟨e2, _⟩ <;> rw [e2]; exact hp; decide
    rw [hb1]
    simp only [List.length_drop] at hb2
    simp [hb3, hb4]; omega
/-- Each step of a made trip. -/
theorem TripW.each {f : Flr} {robot pod : Int} {a b d : Nat} {B : List Int} {Q1 Q2 Q3 : List Nat} (t : TripW f robot pod a b d B Q1 Q2 Q3) : ∀ (i : Nat) x, (tripT pod a b Q1 Q2 Q3)[i]? = some x → x.k = 1 →
    x.c ∈ ints (nearP f (atT d ((tripT pod a b Q1 Q2 Q3).take i))) ∧ ¬ x.c ∈ B ∧ (laneB f x.c = decide (i + 1 < (tripT pod a b Q1 Q2 Q3).length)) ∧ (laneB f x.c = false → x.c = d) := by
  intro i x hx hk
  have hr := t.run
  obtain ⟨hdl, hB, init, hin, hl⟩ := t.goes
  obtain ⟨l, hll⟩ : ∃ l, l = tripT pod a b Q1 Q2 Q3 := ⟨_, rfl⟩
  rw [← hll] at hx hr hB hin ⊢
  have hi := (List.getElem?_eq_some_iff.1 hx).1
  have h2 := hr
  rw [← List.take_append_drop (i + 1) l, runP_append, runP_at hx] at h2
  cases hs : runP f (d : Int) ⟨(d : Int), -1, false⟩ (l.take i) with
  | none => rw [hs] at h2; cases h2
  | some u =>
    rw [hs, Option.bind_some] at h2
    cases hd : doesP f (d : Int) u x with
    | none => rw [hd] at h2; cases h2
    | some v =>
      have hg : goB f (d : Int) u x = true := by
        unfold doesP at hd
        rw [if_pos hk] at hd
        split at hd
        · assumption
        · cases hd
      unfold goB at hg
      simp only [Bool.and_eq_true, Bool.or_eq_true, decide_eq_true_eq] at hg
      have ha := runP_atT _ hs
      simp only at ha
      refine ⟨by rw [← ha]; exact hg.1.2, hB x (List.mem_of_getElem? hx) hk, ?_, fun h => ?_⟩
      · have hlen : l.length = init.length + 1 := by rw [hin]; simp
        rcases Nat.lt_or_ge i init.length with h | h
        · rw [hin, List.getElem?_append_left h] at hx
          rw [hl x (List.mem_of_getElem? hx) hk]
          symm; simp; omega
        · rw [hin, List.getElem?_append_right h, show i - init.length = 0 by omega] at hx
          simp at hx
          subst hx
          rw [hdl]
          symm; simp; omega
      · rcases hg.2 with h1 | h1
        · rw [h] at h1; cases h1
        · exact h1
end Go.Proofs.YtmipnicdlldjnaaGreatDoor

namespace Go.Proofs.YtmipnicdlldjnaaGreatDoor
set_option linter.unusedVariables false
set_option linter.unusedSimpArgs false
open Go.RowKit

theorem mem_compact_of (zs : List Int) : ∀ (j : Nat) x, zs[j]? = some x → x ∈ Lib.compact zs := by
  intro j
  induction j with
  | zero =>
    intro x hx
    have hl := (List.getElem?_eq_some_iff.1 hx).1
    unfold Lib.compact Lib.compactUpTo
    refine List.mem_map.2 ⟨0, List.mem_filter.2 ⟨List.mem_range.2 hl, Lib.keeps_lt_one _ 0 (by omega)⟩, getB hx⟩
  | succ j ih =>
    intro x hx
    have hl := (List.getElem?_eq_some_iff.1 hx).1
    cases hk : Lib.keeps zs.toArray (j + 1) with
    | true =>
      unfold Lib.compact Lib.compactUpTo
      exact List.mem_map.2 ⟨j + 1, List.mem_filter.2 ⟨List.mem_range.2 hl, hk⟩, getB hx⟩
    | false =>
      obtain ⟨y, hy⟩ : ∃ y, zs[j]? = some y := ⟨_, List.getElem?_eq_getElem (by omega)⟩
      have e : x = y := by
        unfold Lib.keeps at hk
        simp only [getB hx, Nat.add_sub_cancel, getB hy] at hk
        simpa using hk
      subst e
      exact ih x hy
theorem compact_mem {zs : List Int} {x : Int} (h : x ∈ Lib.compact zs) : x ∈ zs := by
  unfold Lib.compact Lib.compactUpTo at h
  obtain ⟨j, hj, rfl⟩ := List.mem_map.1 h
  have := List.mem_range.1 (List.mem_filter.1 hj).1
  rw [getB (List.getElem?_eq_getElem this)]
  exact List.getElem_mem this
theorem mem_zonesR {f : Flr} {l : List ActT} {z : Int} : z ∈ zonesR f l ↔ z ∈ zonesT f l := by
  unfold zonesR
  constructor
  · intro h
    exact List.mem_mergeSort.1 (compact_mem h)
  · intro h
    obtain ⟨j, hj⟩ := List.getElem?_of_mem (List.mem_mergeSort.2 h : z ∈ (zonesT f l).mergeSort fun x y => decide (x ≤ y))
    exact mem_compact_of _ j z hj
theorem zones_drop {f : Flr} {l : List ActT} {k : Nat} {z : Int} (h : z ∈ zonesR f (l.drop k)) : z ∈ zonesR f l := by
  rw [mem_zonesR] at h ⊢
  unfold zonesT at h ⊢
  rw [← List.take_append_drop k l, List.filterMap_append]
  exact List.mem_append_right _ h
theorem zonesR_len (f : Flr) (l : List ActT) : (zonesR f l).length ≤ l.length := by
  unfold zonesR
  refine Nat.le_trans (compact_len _) ?_
  rw [List.length_mergeSort]
  exact zonesT_len f l
theorem cost_parts (l : List ActT) (k : Nat) : costT (l.take k) + costT (l.drop k) = costT l := by
  rw [← costT_app, List.take_append_drop]
theorem costT_len (l : List ActT) : costT l ≤ l.length := by unfold costT; exact List.length_filter_le _ _
theorem mem_addS {L : List Int} {c z : Int} : z ∈ addS L c ↔ z ∈ L ∨ z = c := by
  unfold addS
  split
  · constructor
    · exact .inl
    · rintro (h | rfl) <;> assumption
  · simp
end Go.Proofs.YtmipnicdlldjnaaGreatDoor

namespace Go.Proofs.YtmipnicdlldjnaaGreatDoor
set_option linter.unusedVariables false
set_option linter.unusedSimpArgs false
open Go.RowKit

theorem strict_ext : ∀ (a b : List Int), a.Pairwise (· < ·) → b.Pairwise (· < ·) → (∀ x, x ∈ a ↔ x ∈ b) → a = b := by
  intro a
  induction a with
  | nil =>
    intro b _ _ h
    cases b with
    | nil => rfl
    | cons y ys => exact absurd ((h y).2 (by simp)) (by simp)
  | cons x xs ih =>
    intro b ha hb h
    cases b with
    | nil => exact absurd ((h x).1 (by simp)) (by simp)
    | cons y ys =>
      rw [List.pairwise_cons] at ha hb
      have e : x = y := by
        rcases List.mem_cons.1 ((h x).1 (by simp)) with e | e
        · exact e
        · rcases List.mem_cons.1 ((h y).2 (by simp)) with e2 | e2
          · exact e2.symm
          · have := hb.1 x e; have := ha.1 y e2; omega
      subst e
      rw [ih ys ha.2 hb.2 fun z => ?_]
      constructor
      · intro hz
        rcases List.mem_cons.1 ((h z).1 (by simp [hz])) with e | e
        · have := ha.1 z hz; omega
        · exact e
      · intro hz
        rcases List.mem_cons.1 ((h z).2 (by simp [hz])) with e | e
        · have := hb.1 z hz; omega
        · exact e
theorem compact_strict (zs : List Int) (hs : zs.Pairwise (· ≤ ·)) : (Lib.compact zs).Pairwise (· < ·) := by
  unfold Lib.compact Lib.compactUpTo
  rw [List.pairwise_map]
  refine List.Pairwise.imp_of_mem ?_ (List.pairwise_lt_range.filter _)
  intro i j hi hj hij
  obtain ⟨hi1, _⟩ := List.mem_filter.1 hi
  obtain ⟨hj1, hj2⟩ := List.mem_filter.1 hj
  rw [List.mem_range] at hi1 hj1
  have le : ∀ a b : Nat, a ≤ b → b < zs.length → zs.toArray[a]! ≤ zs.toArray[b]! := by
    intro a b hab hb
    rw [getB (List.getElem?_eq_getElem (show a < zs.length by omega)), getB (List.getElem?_eq_getElem hb)]
    rcases Nat.lt_or_ge a b with h | h
    · exact List.pairwise_iff_getElem.1 hs a b (by omega) hb h
    · obtain rfl : a = b := by omega
      exact Int.le_refl _
  have h1 := le i (j - 1) (by omega) (by omega)
  have h2 := le (j - 1) j (by omega) hj1
  unfold Lib.keeps at hj2
  simp only [Bool.or_eq_true, decide_eq_true_eq, ne_eq, bne_iff_ne, decide_not, Bool.not_eq_true'] at hj2
  rcases hj2 with h | h
  · omega
  · first | omega | (have h := of_decide_eq_false h; omega)
theorem zoneP_lt {f : Flr} {c : Int} {z : Nat} (h : zoneP f c = some z) : z < 26 := by
  unfold zoneP at h
  split at h
  · rename_i hb
    obtain rfl := Option.some.inj h
    have := (isB_iff.1 hb).2.2.1
    unfold kdS kindB at this
    split at this
    · simp at this
    · split at this
      · omega
      · split at this <;> simp at this
  · cases h
theorem zonesN_lt {f : Flr} {l : List ActT} {z : Nat} (h : z ∈ zonesN f l) : z < 26 := by
  unfold zonesN at h
  obtain ⟨x, _, hx⟩ := List.mem_filterMap.1 h
  split at hx
  · exact zoneP_lt hx
  · cases hx
/-- The zones, as the reference lays them. -/
noncomputable def zonesQ (f : Flr) (l : List ActT) (k : Nat) : List Nat := (List.range k).filter fun z => decide (z ∈ zonesN f l)
theorem zonesQ_succ (f : Flr) (l : List ActT) (k : Nat) : zonesQ f l (k + 1) = zonesQ f l k ++ (if k ∈ zonesN f l then [k] else []) := by
  unfold zonesQ
  rw [List.range_succ, List.filter_append]
  by_cases h : k ∈ zonesN f l <;> simp [h]
theorem zonesQ_len (f : Flr) (l : List ActT) (k : Nat) : (zonesQ f l k).length ≤ k := by
  unfold zonesQ
  exact Nat.le_trans (List.length_filter_le _ _) (by simp)
theorem zones_eq (f : Flr) (l : List ActT) : zonesR f l = ints (zonesQ f l 26) := by
  refine strict_ext _ _ ?_ ?_ fun x => ?_
  · unfold zonesR
    refine compact_strict _ ?_
    have := List.pairwise_mergeSort (le := fun (x y : Int) => decide (x ≤ y)) (fun a b c h1 h2 => by simp at h1 h2 ⊢; omega) (fun a b => by simp; omega) (zonesT f l)
    exact this.imp (by simp)
  · unfold ints zonesQ
    rw [List.pairwise_map]
    exact (List.pairwise_lt_range.filter _).imp (by omega)
  · rw [mem_zonesR, zonesT_eq]
    unfold ints zonesQ
    constructor
    · intro h
      obtain ⟨n, hn, rfl⟩ := List.mem_map.1 h
      exact List.mem_map.2 ⟨n, List.mem_filter.2 ⟨List.mem_range.2 (zonesN_lt hn), by simpa using hn⟩, rfl⟩
    · intro h
      obtain ⟨n, hn, rfl⟩ := List.mem_map.1 h
      obtain ⟨_, hn2⟩ := List.mem_filter.1 hn
      exact List.mem_map.2 ⟨n, by simpa using hn2, rfl⟩
end Go.Proofs.YtmipnicdlldjnaaGreatDoor

namespace Go.Proofs.YtmipnicdlldjnaaGreatDoor
set_option linter.unusedVariables false
set_option linter.unusedSimpArgs false
open Go.RowKit

/-- Steps, reckoned. -/
def stepsC (W H : Nat) (s : ByteArray) (fr : Nat) (B : List Int) (u : Nat) : List Nat :=
  if (u == fr || kdS s u == 2) && (kdS s u == 2 || kdS s u == 3) then ((besideP W H u).filter fun x => kdS s x != 1).filter fun (c : Nat) => !decide ((c : Int) ∈ B) else []
theorem stepsC_eq {W H : Nat} {s : ByteArray} (hb : rightB ⟨W, H, s⟩ = true) {fr : Nat} (hf : kdS s fr ≠ 1) (B : List Int) {u : Nat} (hu : u < s.size) : stepsP ⟨W, H, s⟩ fr B u = stepsC W H s fr B u := by
  unfold stepsP stepsC
  rcases right_kdP (rightB_iff.1 hb) hu with h | h | h
  · rw [if_pos ⟨fun e => hf (by rw [← e]; exact h), by rw [h]; decide⟩, if_neg (by rw [h]; simp)]
  · rw [if_neg (by rintro ⟨_, b⟩; exact b h), if_pos (by rw [h]; simp), nearP_at (W := W) (H := H) hb hu rfl rfl (.inl h)]
  · by_cases e : u = fr
    · rw [if_neg (by rintro ⟨a, _⟩; exact a e), if_pos (by rw [h, e]; simp), nearP_at (W := W) (H := H) hb hu rfl rfl (.inr h)]
    · rw [if_pos ⟨e, by rw [h]; decide⟩, if_neg (by rw [h]; simp [e])]
/-- h bounds how far each cell is from g. -/
theorem pot {st : Nat → List Nat} {n : Nat} {h : Nat → Nat} (hs : ∀ u, u < n → ∀ c ∈ st u, c < n ∧ h u ≤ h c + 1) {l k c : Nat} (hw : Wk st l k c) (hl : l < n) : c < n ∧ h l ≤ h c + k := by
  induction hw with
  | nil => exact ⟨hl, Nat.le_refl _⟩
  | step _ hc ih =>
    obtain ⟨h1, h2⟩ := ih
    obtain ⟨h3, h4⟩ := hs _ h1 _ hc
    exact ⟨h3, by omega⟩
theorem FstW.uniq {st : Nat → List Nat} {s g : Nat} {Q R : List Nat} (h : FstW st s g Q) (r : FstW st s g R) (hl : Q.length = R.length) : Q = R := by
  have key : ∀ (k : Nat), (∀ (j : Nat), j < k → Q[j]? = R[j]?) := by
    intro k
    induction k with
    | zero => intro j hj; omega
    | succ k ih =>
      intro j hj
      rcases Nat.lt_or_ge j k with h1 | h1
      · exact ih j h1
      · obtain rfl : j = k := by omega
        rcases Nat.lt_or_ge j Q.length with h2 | h2
        · obtain ⟨a, ha⟩ : ∃ b, Q[j]? = some b := ⟨_, List.getElem?_eq_getElem h2⟩
          obtain ⟨b, hb⟩ : ∃ b, R[j]? = some b := ⟨_, List.getElem?_eq_getElem (by omega)⟩
          have hn : nd s Q j = nd s R j := by
            cases j with
            | zero => rfl
            | succ j =>
              show Q.getD j 0 = R.getD j 0
              rw [List.getD_eq_getElem?_getD, List.getD_eq_getElem?_getD, ih j (by omega)]
          obtain ⟨w1, m1, a1, a2⟩ := h.at_ j a ha
          obtain ⟨w2, m2, b1, b2⟩ := r.at_ j b hb
          rw [hn] at a1 a2
          rw [← hl] at w2 b2
          rcases Nat.lt_trichotomy m1 m2 with e | e | e
          · exact absurd w1 (b2 _ _ e a1)
          · subst e; rw [a1] at b1; rw [ha, hb, b1]
          · exact absurd w2 (a2 _ _ e b1)
        · rw [List.getElem?_eq_none h2, List.getElem?_eq_none (by omega)]
  exact List.ext_getElem? fun j => key (j + 1) j (by omega)
/-- A way, reckoned: Q[k] is the m[k]-th neighbour, and ahead of it all are too far. -/
structure Way (st : Nat → List Nat) (h : Nat → Nat) (n s g : Nat) (Q ms : List Nat) : Prop where
  en : nd s Q Q.length = g
  ok : ∀ k, k < Q.length → (st (nd s Q k))[ms.getD k 0]? = Q[k]? ∧ ∀ m', m' < ms.getD k 0 → ∀ l ∈ (st (nd s Q k))[m']?, Q.length - 1 - k < h l
theorem Way.walk {st : Nat → List Nat} {h : Nat → Nat} {n s g : Nat} {Q ms : List Nat} (w : Way st h n s g Q ms) : ∀ d k, k + d = Q.length → Wk st (nd s Q k) d g := by
  intro d
  induction d with
  | zero => intro k hk; rw [← w.en, show k = Q.length by omega]; exact .nil
  | succ d ih =>
    intro k hk
    obtain ⟨b, hb⟩ : ∃ b, Q[k]? = some b := ⟨_, List.getElem?_eq_getElem (by omega)⟩
    have h1 := (w.ok k (by omega)).1
    rw [hb] at h1
    have := ih (k + 1) (by omega)
    rw [nd_succ hb] at this
    exact .front (List.mem_of_getElem? h1) this
theorem Way.fst {st : Nat → List Nat} {h : Nat → Nat} {n s g : Nat} {Q ms : List Nat} (w : Way st h n s g Q ms) (hs : ∀ u, u < n → ∀ c ∈ st u, c < n ∧ h u ≤ h c + 1) (hsn : s < n) (hg : h g = 0) : FstW st s g Q := by
  have ndn : ∀ k, k ≤ Q.length → nd s Q k < n := by
    intro k
    induction k with
    | zero => intro _; exact hsn
    | succ k ih =>
      intro hk
      obtain ⟨b, hb⟩ : ∃ b, Q[k]? = some b := ⟨_, List.getElem?_eq_getElem (by omega)⟩
      have h1 := (w.ok k (by omega)).1
      rw [hb] at h1
      rw [nd_succ hb]
      exact (hs _ (ih (by omega)) b (List.mem_of_getElem? h1)).1
  refine ⟨w.en, fun k b hb => ?_⟩
  have hl := (List.getElem?_eq_some_iff.1 hb).1
  obtain ⟨h1, h2⟩ := w.ok k hl
  rw [hb] at h1
  refine ⟨?_, _, h1, fun m' l hm hl2 hw => ?_⟩
  · have := w.walk (Q.length - 1 - k) (k + 1) (by omega)
    rwa [nd_succ hb] at this
  · have h3 := h2 m' hm l hl2
    have h4 := (pot hs hw (hs _ (ndn k (by omega)) l (List.mem_of_getElem? hl2)).1).2
    omega
theorem Way.dst {st : Nat → List Nat} {h : Nat → Nat} {n s g : Nat} {Q ms : List Nat} (w : Way st h n s g Q ms) (hs : ∀ u, u < n → ∀ c ∈ st u, c < n ∧ h u ≤ h c + 1) (hsn : s < n) (hg : h g = 0) (hh : h s = Q.length) : dst st s g = (Q.length : Int) :=
  (dst_isD st s g).uniq (.inr ⟨Q.length, rfl, w.walk Q.length 0 (by omega), fun k hk => by have := (pot hs hk hsn).2; omega⟩)
end Go.Proofs.YtmipnicdlldjnaaGreatDoor

namespace Go.Proofs.YtmipnicdlldjnaaGreatDoor
set_option linter.unusedVariables false
set_option linter.unusedSimpArgs false
open Go.RowKit

theorem nearP_noT {f : Flr} {c : Int} (h : ¬ (rightB f = true ∧ c < f.s.size ∧ 0 ≤ c)) : nearP f c = [] := by
  unfold nearP
  rw [if_neg]
  unfold isB
  simp only [Bool.and_eq_true, decide_eq_true_eq]
  rintro (h1 | h1) <;> exact h ⟨h1.2, h1.1.1.2, h1.1.1.1⟩
theorem steps_funT {W H : Nat} {s : ByteArray} (hb : rightB ⟨W, H, s⟩ = true) {fr : Nat} (hf : kdS s fr ≠ 1) (hfr : fr < s.size) (B : List Int) {G : List (List Nat)} (hG : (List.range s.size).map (stepsC W H s fr B) = G) : stepsP ⟨W, H, s⟩ fr B = fun u => G.getD u [] := by
  funext u
  subst hG
  rw [List.getD_eq_getElem?_getD, List.getElem?_map]
  rcases Nat.lt_or_ge u s.size with h | h
  · rw [List.getElem?_range h]
    exact stepsC_eq hb hf B h
  · rw [List.getElem?_eq_none (by simpa using h)]
    unfold stepsP
    have : nearP ⟨W, H, s⟩ (u : Int) = [] := nearP_noT (fun h2 => by have := h2.2.1; simp at this; omega)
    split
    · rfl
    · rw [this]; rfl
def f10 : Flr := ⟨5, 1, ⟨#[48, 97, 97, 98, 49]⟩⟩
theorem f10_right : rightB f10 = true := rightC_ok (W := 5) (H := 1) (by kernel_rfl)
theorem parse_10 : parseP ⟨#[48, 97, 97, 98, 49, 10]⟩ = (f10, 0, 0) := parseP_of (W := 5) (H := 1) (R := [⟨#[48, 97, 97, 98, 49]⟩]) (by kernel_rfl) (by kernel_rfl) (by kernel_rfl) (by kernel_rfl) (by kernel_rfl) (by kernel_rfl)
theorem stT_a : stepsP f10 0 [] = fun u => ([[1], [2, 0], [3, 1], [4, 2], []] : List (List Nat)).getD u [] := steps_funT (W := 5) (H := 1) (s := ⟨#[48, 97, 97, 98, 49]⟩) f10_right (by decide) (by decide) [] (by kernel_rfl)
theorem ptT_a : ∀ u, u < 5 → ∀ c ∈ stepsP f10 0 [] u, c < 5 ∧ ([2, 1, 0, 1, 100] : List Nat).getD u 0 ≤ ([2, 1, 0, 1, 100] : List Nat).getD c 0 + 1 := by rw [stT_a]; decide
theorem wyT_a : Way (stepsP f10 0 []) (fun u => ([2, 1, 0, 1, 100] : List Nat).getD u 0) 5 0 2 [1, 2] [0, 0] := by
  rw [stT_a]
  exact ⟨by decide, by decide⟩
theorem dsT_a : dst (stepsP f10 0 []) 0 2 = 2 := wyT_a.dst ptT_a (by decide) (by decide) (by decide)
theorem fwT_a : FstW (stepsP f10 0 []) 0 2 [1, 2] := wyT_a.fst ptT_a (by decide) (by decide)
theorem stT_b : stepsP f10 2 [] = fun u => ([[], [2, 0], [3, 1], [4, 2], []] : List (List Nat)).getD u [] := steps_funT (W := 5) (H := 1) (s := ⟨#[48, 97, 97, 98, 49]⟩) f10_right (by decide) (by decide) [] (by kernel_rfl)
theorem ptT_b : ∀ u, u < 5 → ∀ c ∈ stepsP f10 2 [] u, c < 5 ∧ ([100, 2, 1, 0, 100] : List Nat).getD u 0 ≤ ([100, 2, 1, 0, 100] : List Nat).getD c 0 + 1 := by rw [stT_b]; decide
theorem wyT_b : Way (stepsP f10 2 []) (fun u => ([100, 2, 1, 0, 100] : List Nat).getD u 0) 5 2 3 [3] [0] := by
  rw [stT_b]
  exact ⟨by decide, by decide⟩
theorem dsT_b : dst (stepsP f10 2 []) 2 3 = 1 := wyT_b.dst ptT_b (by decide) (by decide) (by decide)
theorem fwT_b : FstW (stepsP f10 2 []) 2 3 [3] := wyT_b.fst ptT_b (by decide) (by decide)
theorem stT_c : stepsP f10 3 [] = fun u => ([[], [2, 0], [3, 1], [4, 2], []] : List (List Nat)).getD u [] := steps_funT (W := 5) (H := 1) (s := ⟨#[48, 97, 97, 98, 49]⟩) f10_right (by decide) (by decide) [] (by kernel_rfl)
theorem ptT_c : ∀ u, u < 5 → ∀ c ∈ stepsP f10 3 [] u, c < 5 ∧ ([0, 1, 2, 3, 100] : List Nat).getD u 0 ≤ ([0, 1, 2, 3, 100] : List Nat).getD c 0 + 1 := by rw [stT_c]; decide
theorem wyT_c : Way (stepsP f10 3 []) (fun u => ([0, 1, 2, 3, 100] : List Nat).getD u 0) 5 3 0 [2, 1, 0] [1, 1, 1] := by
  rw [stT_c]
  exact ⟨by decide, by decide⟩
theorem dsT_c : dst (stepsP f10 3 []) 3 0 = 3 := wyT_c.dst ptT_c (by decide) (by decide) (by decide)
theorem fwT_c : FstW (stepsP f10 3 []) 3 0 [2, 1, 0] := wyT_c.fst ptT_c (by decide) (by decide)
theorem dock_10 : dockP f10 0 = some 0 := by unfold dockP; rw [if_pos ⟨f10_right, by decide⟩]; decide
theorem zone_10 (c : Int) : zoneP f10 c = if (decide (0 ≤ c) && decide (c < 5) && ((kdS f10.s c.toNat : Int) == 2) && true) = true then some (bt f10.s c.toNat - 97) else none := by
  unfold zoneP isB; rw [f10_right]; rfl
theorem zone10_1 : zoneP f10 1 = some 0 := by rw [zone_10]; decide
theorem zone10_2 : zoneP f10 2 = some 0 := by rw [zone_10]; decide
theorem zone10_3 : zoneP f10 3 = some 1 := by rw [zone_10]; decide
theorem zone10_0 : zoneP f10 0 = none := by rw [zone_10]; decide
theorem made_10 : makeB f10 0 5 2 3 = true := by unfold makeB; rw [dock_10, zone10_2, zone10_3]; decide
def want10 : List ActT := [⟨1, 1, 0⟩, ⟨1, 2, 0⟩, ⟨2, 2, 5⟩, ⟨1, 3, 0⟩, ⟨3, 3, 5⟩, ⟨1, 2, 0⟩, ⟨1, 1, 0⟩, ⟨1, 0, 0⟩]
theorem leg_uniq {fr tg th : Nat} {m : List ActT} {Q : List Nat} (hd : dst (stepsP f10 fr []) fr tg = (Q.length : Int)) (hf : FstW (stepsP f10 fr []) fr tg Q) (h : LegR f10 [] 5 (fr, tg, th) m) : m = goT Q ++ (if th = 0 then [] else [⟨th, (tg : Int), 5⟩]) := by
  obtain ⟨R, h1, h2, h3⟩ := h
  simp only at h1 h2 h3
  have hl : R.length = Q.length := by omega
  obtain rfl := h2.uniq hf hl
  exact h3
theorem make_10 {out : List ActT} {er : Int} (h : MadeR f10 0 5 2 3 [] out er) : out = want10 ∧ er = 0 := by
  cases h with
  | arg h => rw [made_10] at h; cases h
  | no d a b g _ hd ha hb hg hn =>
    rw [dock_10] at hd; cases hd
    obtain rfl : a = 2 := by omega
    obtain rfl : b = 3 := by omega
    unfold legsT at hg
    simp only [List.mem_cons, List.not_mem_nil, or_false] at hg
    rcases hg with rfl | rfl | rfl
    · have := dsT_a; simp only at hn; omega
    · have := dsT_b; simp only at hn; omega
    · have := dsT_c; simp only at hn; omega
  | ok d a b m1 m2 m3 _ hd ha hb h1 h2 h3 =>
    rw [dock_10] at hd; cases hd
    obtain rfl : a = 2 := by omega
    obtain rfl : b = 3 := by omega
    rw [leg_uniq dsT_a fwT_a h1, leg_uniq dsT_b fwT_b h2, leg_uniq dsT_c fwT_c h3]
    exact ⟨by decide, rfl⟩
theorem zonesT_10 : zonesT f10 want10 = [0, 0, 1, 0, 0] := by
  unfold zonesT want10 zoT
  simp only [List.filterMap_cons, List.filterMap_nil, zone10_0, zone10_1, zone10_2, zone10_3]
  decide
theorem zones_10 : zonesR f10 want10 = [0, 1] := by unfold zonesR; rw [zonesT_10, show [(0 : Int), 0, 1, 0, 0].mergeSort (fun x y => decide (x ≤ y)) = [0, 0, 0, 0, 1] by simp [List.mergeSort, List.merge, List.MergeSort.Internal.splitInTwo]]; decide
theorem cost_10 : costT want10 = 6 := by decide
end Go.Proofs.YtmipnicdlldjnaaGreatDoor

namespace Go.Proofs.YtmipnicdlldjnaaGreatDoor
set_option linter.unusedVariables false
set_option linter.unusedSimpArgs false
open Go.RowKit

theorem tpMake_any (f : Flr) (hsz : f.s.size ≤ 1000000) (robot pod fr tg : Int) (hr : robot ≤ 9223372036854775807) (hfr : fr ≤ 9223372036854775807) (htg : tg ≤ 9223372036854775807) {bv : Value} {B : List Int} {w : World} (hB : Rd IK w bv B) :
    Calls Tryz.prog 7 #[f.val, .int .i64 robot, .int .i64 pod, .int .i64 fr, .int .i64 tg, bv] w (MakeO f robot pod fr tg B w) := by
  cases hmk : makeB f robot pod fr tg with
  | false => exact tpMake_arg f hsz robot pod fr tg hr hfr htg bv B w hmk
  | true =>
    have h := hmk
    unfold makeB at h
    simp only [Bool.and_eq_true, Bool.not_eq_true'] at h
    obtain ⟨⟨⟨⟨hd, ha⟩, hb⟩, _⟩, _⟩ := h
    obtain ⟨a, rfl, _⟩ := zone_okT ha
    obtain ⟨b, rfl, _⟩ := zone_okT hb
    obtain ⟨d, hd⟩ := Option.isSome_iff_exists.1 hd
    exact tpMake_ok f hsz robot pod a b d hr hB hmk hd
theorem neqA (x y : ActT) (b : Bool) (hb : b = !decide (x = y)) (w : World) : (binOp .neq 41 (.agg #[.int .u8 (x.k : Int), .int .i64 x.c, .int .i64 x.p]) (.agg #[.int .u8 (y.k : Int), .int .i64 y.c, .int .i64 y.p])).run Tryz.prog w = .ok (.bool b) w := by
  subst hb
  obtain ⟨k, c, p⟩ := x
  obtain ⟨k2, c2, p2⟩ := y
  have h : decide ((⟨k, c, p⟩ : ActT) = ⟨k2, c2, p2⟩) = (decide ((k : Int) = k2) && decide (c = c2) && decide (p = p2)) := by
    by_cases h1 : k = k2 <;> by_cases h2 : c = c2 <;> by_cases h3 : p = p2 <;> simp [h1, h2, h3] <;> omega
  rw [h]
  by_cases h1 : (k : Int) = k2 <;> by_cases h2 : c = c2 <;> by_cases h3 : p = p2 <;> simp [binOp, Op.equal, Op.maxDepth, go_sem, h1, h2, h3]
set_option maxHeartbeats 1000000 in
set_option maxRecDepth 100000 in
theorem same10_any {a b : Value} {l m : List ActT} {w : World} (ha : Rd AcK w a l) (hb : Rd AcK w b m) (hl : l.length ≤ 1000000) (hm : m.length ≤ 1000000) (r : Bool) (hr : r = decide (l = m)) :
    Calls Tryz.prog 9 #[a, b] w fun e w' => e = .returned (.bool r) ∧ Kp No w w' := by
  obtain ⟨A, ca, rfl⟩ := ha.shape
  obtain ⟨B, cb, rfl⟩ := hb.shape
  have HR := Lib.hid hr
  by_cases hlen : ¬ l.length = m.length
  · have hd : r = false := by rw [hr]; simp; intro e; exact hlen (by rw [e])
    subst hd
    have hne : ((l.length : Int) != (m.length : Int)) = true := by rw [bne_iff_ne]; omega
    clear hr hlen ha hb
    go_enter Tryz.func9, Tryz.ntmps9
    go_wp2
    go_ret
    exact ⟨rfl, Kp.refl _ _⟩
  · have hlen := Decidable.not_not.1 hlen
    have hne : ((l.length : Int) != (m.length : Int)) = false := by simp [hlen]
    have HL := Lib.hid hlen
    have HA := Lib.hid ha; have HB := Lib.hid hb
    clear hr hlen ha hb
    go_enter Tryz.func9, Tryz.ntmps9
    go_wp2
    go_loopw [5] (fun i wr => ∃ k : Nat, i = .int .i64 k ∧ k ≤ l.length ∧ (∀ j : Nat, j < k → l[j]? = m[j]?) ∧ Kp No w wr) (fun i _ => l.length - (intOf i).toNat)
    case atStart => exact ⟨0, rfl, by omega, by intros; omega, Kp.refl _ _⟩
    case round =>
      obtain ⟨k, rfl, hk, heq, hK⟩ := hrel
      by_cases hlt : k < l.length
      · obtain ⟨x, hx⟩ : ∃ x, l[k]? = some x := ⟨_, List.getElem?_eq_getElem hlt⟩
        have hkm : k < m.length := by have := HL.out; omega
        obtain ⟨y, hy⟩ : ∃ y, m[k]? = some y := ⟨_, List.getElem?_eq_getElem hkm⟩
        have RA := HA.out.kpNo hK
        have RB := HB.out.kpNo hK
        rcases RA with ⟨hv, he⟩ | ⟨g, o, c1, hv, _⟩
        · rw [he] at hlt; simp at hlt
        rcases RB with ⟨hv2, he⟩ | ⟨g2, o2, c2, hv2, _⟩
        · rw [he] at hkm; simp at hkm
        simp only [Value.slice.injEq] at hv hv2
        obtain ⟨rfl, _, rfl⟩ := hv
        obtain ⟨rfl, _, rfl⟩ := hv2
        obtain ⟨hx1, hx2, hx3, hx4⟩ := (HA.out.kpNo hK).actAt hx
        obtain ⟨hy1, hy2, hy3, hy4⟩ := (HB.out.kpNo hK).actAt hy
        have hltI : (k : Int) < (l.length : Int) := by omega
        have hltJ : (k : Int) < (m.length : Int) := by omega
        have HE := Lib.hid heq; have HK := Lib.hid hK; have HX := Lib.hid hx; have HY := Lib.hid hy
        clear heq hK hx hy
        by_cases hxy : x = y
        · subst hxy
          have hq := neqA x x false (by simp)
          go_wp2
          go_quiet (fail)
          go_wp2
          go_roundw
          case rel =>
            refine ⟨k + 1, by go_num, hlt, ?_, HK.out.drewN _⟩
            intro j hj
            by_cases hjk : j = k
            · subst hjk; rw [HX.out, HY.out]
            · exact HE.out j (by omega)
          case measure => simp [intOf]; omega
        · have hq := neqA x y true (by simp [hxy])
          have hd : r = false := by
            rw [HR.out]; simp
            rintro rfl
            have := HX.out.symm.trans HY.out
            simp only [Option.some.injEq] at this
            exact hxy this
          subst hd
          go_wp2
          go_quiet (fail)
          go_wp2
          go_ret
          exact ⟨rfl, HK.out.drewN _⟩
      · obtain rfl : k = l.length := by omega
        have hd0 : ¬ (l.length : Int) < (l.length : Int) := by omega
        have hd : r = true := by
          rw [HR.out]; simp
          refine List.ext_getElem? fun j => ?_
          rcases Nat.lt_or_ge j l.length with h | h
          · exact heq j h
          · rw [List.getElem?_eq_none h, List.getElem?_eq_none (by rw [← HL.out]; exact h)]
        subst hd
        have HK := Lib.hid hK
        clear heq hK
        go_wp2
        go_ret
        exact ⟨rfl, HK.out⟩
end Go.Proofs.YtmipnicdlldjnaaGreatDoor

namespace Go.Proofs.YtmipnicdlldjnaaGreatDoor
set_option linter.unusedVariables false
set_option linter.unusedSimpArgs false
open Go.RowKit

theorem goT_snocQ {Q : List Nat} {k c : Nat} (hc : Q[k]? = some c) : goT (Q.take (k + 1)) = goT (Q.take k) ++ [⟨1, (c : Int), 0⟩] := by
  unfold goT; rw [List.take_add_one, hc, List.map_append]; rfl
theorem goT_size (Q : List Nat) : (goT Q).length = Q.length := by unfold goT; simp
set_option maxRecDepth 100000 in
theorem q10gos_any {w : World} {v : Value} {Q : List Nat} (hv : Rd IK w v (ints Q)) (hb : Q.length ≤ 1000) : Calls Tryz.prog 25 #[v] w fun e w' => ∃ A q, e = .returned (.slice A Q.length q) ∧ NewS AcK 41 w w' (.slice A Q.length q) (goT Q) := by
  obtain ⟨A, cap, rfl⟩ := hv.shape
  rw [ints_len] at hv ⊢
  obtain ⟨n, hn⟩ : ∃ z, z = Q.length := ⟨_, rfl⟩
  rw [← hn] at hv hb ⊢
  have HV := Lib.hid hv; have HN := Lib.hid hn
  clear hv hn
  go_enter Tryz.func25, Tryz.ntmps25
  go_wp2_with fail
  go_loopg [3, 4] (n + 1) (fun g_ lv iv wx => ∃ (i : Nat) (A : Option Addr) (q k : Nat), g_ = n + 1 - i ∧ iv = .int .i64 (i : Int) ∧ i ≤ n ∧ lv = .slice A k q ∧ k = (goT (Q.take i)).length ∧ k ≤ 1000 ∧ NewS AcK 41 w wx (.slice A k q) (goT (Q.take i)))
  case atStart => exact ⟨0, none, 0, 0, rfl, rfl, by omega, rfl, rfl, by omega, NewS.nil _ _ _⟩
  case round =>
    obtain ⟨i, A2, q2, k, hg, rfl, hi, rfl, hk, hkb, ns⟩ := hrel
    have HK := Lib.hid hk; have NS := Lib.hid ns
    clear hk ns
    by_cases hlt : i < n
    · have hltI : (i : Int) < (n : Int) := by omega
      have hwi : IntKind.i64.wrap ((i : Int) + 1) = (i : Int) + 1 := IntWalk.i64_in _ (by omega)
      obtain ⟨c, hc⟩ : ∃ c, Q[i]? = some c := ⟨_, List.getElem?_eq_getElem (by rw [← HN.out]; exact hlt)⟩
      have hci : (ints Q)[i]? = some (c : Int) := by unfold ints; rw [List.getElem?_map, hc]; rfl
      rcases (HV.out.kpNo NS.out.kp) with ⟨_, he⟩ | ⟨g, o, cap', hv, _⟩
      · have h := HN.out; have := congrArg List.length he; rw [ints_len, List.length_nil] at this; omega
      simp only [Value.slice.injEq] at hv
      obtain ⟨rfl, hzz, rfl⟩ := hv
      have hcc := (HV.out.kpNo NS.out.kp).intAt hci
      have HS := Lib.hid (goT_snocQ hc)
      clear hc hci hzz hlt
      go_wp2_with (at_builtin; refine wpl_snocA (y := ⟨1, (c : Int), 0⟩) rfl (.tmp 11) (.tmp 17) rfl rfl rfl rfl rfl rfl rfl (OutS.start NS.out) HK.out (by omega) ?_; intro A4 q4 w8 n4; have N4 := Lib.hid n4.ns; clear n4)
      go_roundg (n + 1 - (i + 1))
      case measure => omega
      case rel => exact ⟨i + 1, A4, q4, k + 1, rfl, by go_num, by omega, rfl, by rw [HS.out, List.length_append, ← HK.out]; rfl, by have := HK.out; rw [goT_size, List.length_take] at this; omega, by rw [HS.out]; exact N4.out⟩
    · obtain rfl : n = i := by omega
      have hd0 : ¬ (n : Int) < (n : Int) := by omega
      obtain rfl : k = n := by rw [HK.out, HN.out, List.take_length, goT_size]
      clear hlt
      go_wp2_with fail
      go_ret
      exact ⟨A2, q2, rfl, by have := NS.out; rwa [HN.out, List.take_length, ← HN.out] at this⟩
set_option maxRecDepth 100000 in
theorem q10Cost_any {w : World} {v : Value} {l : List ActT} (hl : Rd AcK w v l) (hb : l.length ≤ 1000000) : Calls Tryz.prog 13 #[v] w fun e w' => e = .returned (.int .i64 (costT l : Int)) ∧ Kp No w w' := by
  obtain ⟨A, cap, rfl⟩ := hl.shape
  obtain ⟨n, hn⟩ : ∃ z, z = l.length := ⟨_, rfl⟩
  rw [← hn] at hl hb ⊢
  have HL := Lib.hid hl; have HN := Lib.hid hn
  clear hl hn
  go_enter Tryz.func13, Tryz.ntmps13
  go_wp2_with fail
  go_loopg [3, 4] (n + 1) (fun g_ cv iv wx => ∃ (i c : Nat), g_ = n + 1 - i ∧ iv = .int .i64 (i : Int) ∧ i ≤ n ∧ cv = .int .i64 (c : Int) ∧ c = costT (l.take i) ∧ c ≤ i ∧ Kp No w wx)
  case atStart => exact ⟨0, 0, rfl, rfl, by omega, rfl, rfl, by omega, Kp.refl _ _⟩
  case round =>
    obtain ⟨i, c, hg, rfl, hi, rfl, hcc, hci, kp⟩ := hrel
    have HC := Lib.hid hcc; have KP := Lib.hid kp
    clear hcc kp
    by_cases hlt : i < n
    · have hltI : (i : Int) < (n : Int) := by omega
      have hwi : IntKind.i64.wrap ((i : Int) + 1) = (i : Int) + 1 := IntWalk.i64_in _ (by omega)
      have hwc : IntKind.i64.wrap ((c : Int) + 1) = (c : Int) + 1 := IntWalk.i64_in _ (by omega)
      obtain ⟨x, hx⟩ : ∃ x, l[i]? = some x := ⟨_, List.getElem?_eq_getElem (by rw [← HN.out]; exact hlt)⟩
      rcases (HL.out.kpNo KP.out) with ⟨_, he⟩ | ⟨g, o, cap', hv, _⟩
      · have := HN.out; rw [he, List.length_nil] at this; omega
      simp only [Value.slice.injEq] at hv
      obtain ⟨rfl, hzz, rfl⟩ := hv
      obtain ⟨x0, x1, x2, x3⟩ := (HL.out.kpNo KP.out).actAt hx
      have HS := Lib.hid (costT_snoc hx)
      obtain ⟨b, hb1⟩ : ∃ b, ((x.k : Int) == 1) = b := ⟨_, rfl⟩
      have HB := Lib.hid hb1
      clear hx hzz hlt
      cases b with
      | true =>
        have hk : x.k = 1 := by have := HB.out; simp at this; omega
        go_wp2_with fail
        go_roundg (n + 1 - (i + 1))
        case measure => omega
        case rel => exact ⟨i + 1, c + 1, rfl, by go_num, by omega, by go_num, by rw [HS.out, if_pos hk, ← HC.out], by omega, KP.out⟩
      | false =>
        have hk : ¬ x.k = 1 := by have := HB.out; simp at this; omega
        go_wp2_with fail
        go_roundg (n + 1 - (i + 1))
        case measure => omega
        case rel => exact ⟨i + 1, c, rfl, by go_num, by omega, rfl, by rw [HS.out, if_neg hk, ← HC.out]; rfl, by omega, KP.out⟩
    · obtain rfl : n = i := by omega
      have hd0 : ¬ (n : Int) < (n : Int) := by omega
      have HE := Lib.hid (show costT l = c by rw [HC.out, HN.out, List.take_length])
      clear hlt
      go_wp2_with fail
      go_ret
      exact ⟨by rw [HE.out]; rfl, KP.out⟩
end Go.Proofs.YtmipnicdlldjnaaGreatDoor
