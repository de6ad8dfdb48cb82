/- The laws of link: LinkPlays. -/
import Derived.Test.YtnejjjoedmefkaaLwQ
import Derived.Deep.RegionHeld3
namespace Go.Proofs.Ytnejjjoedmefkaa
set_option linter.unusedVariables false
set_option linter.unusedSimpArgs false
open Go.RowKit

theorem pkt_same {n : Nat} {on : Bool} {d d' : List Nat} (h : on = true → d = d') : pktL n on d' = pktL n on d := by
  unfold pktL
  cases on
  · rfl
  · rw [h rfl]
theorem pktL_lt (n : Nat) (on : Bool) (d : List Nat) : ∀ x ∈ pktL n on d, x < 256 := by
  unfold pktL; split
  · exact layL_lt _ _ _
  · intro x hx; simp at hx
theorem pktL_len (n : Nat) (on : Bool) (d : List Nat) (h : on = true → n < 18446744073709551614) : (pktL n on d).length ≤ 1004 := by
  unfold pktL
  split
  · rename_i ho; exact layL_len _ _ _ (by have := h ho; omega)
  · simp

theorem ackL_lt (hd : Nat) (F : List Nat) : ∀ y ∈ (if ackB hd F then layL true (tkN F) [] else []), y < 256 := by
  intro y hy
  cases h : ackB hd F
  · rw [h] at hy; cases hy
  · rw [h] at hy; exact layL_lt _ _ _ y hy
theorem ackL_len (hd : Nat) (F : List Nat) : (if ackB hd F then layL true (tkN F) [] else []).length ≤ 1004 := by
  cases h : ackB hd F
  · exact Nat.zero_le _
  · exact layL_len _ _ _ (Nat.lt_succ_of_lt (tkN_lt _))

def HearN (p : Nat) (R : World → Prop) (fb : Bool) (dk bk : List Nat) (w : World) (e : Ending) (w' : World) : Prop :=
  ∃ v1 v2, e = .returned (.tuple #[v1, .bool fb, v2]) ∧ Kp (fun k => k = p) w w' ∧ R w' ∧ Own BK 5 w' v1 dk ∧ Own BK 5 w' v2 bk ∧ (∀ g, v1.ownBlock = some g → w.heap.size ≤ g) ∧ (∀ g, v2.ownBlock = some g → w.heap.size ≤ g)
/-- Both receivers answer one frame alike: the answers named. -/
theorem hear_named (hd : Nat) (F : List Nat) (hl : F.length ≤ 1000000) (hx : ∀ x ∈ F, x < 256) : ∃ (fb : Bool) (dk bk : List Nat) (h2 : Nat), (∀ y ∈ bk, y < 256) ∧ bk.length ≤ 1004 ∧
    (∀ (w : World) (p : Nat) (v : Value), RcvS p hd w → Rd BK w v F → Calls Try.prog 25 #[.pointer (some ⟨p, 0, none⟩), v] w (HearN p (RcvS p h2) fb dk bk w)) ∧
    (∀ (w : World) (p o : Nat) (cs : Array Value) (t : TypeId) (v : Value), RcqS p o cs t hd w → Rd BK w v F → Calls Try.prog 26 #[.pointer (some ⟨p, o, none⟩), v] w (HearN p (RcqS p o (cs.setIfInBounds o (.int .u64 (h2 : Int))) t h2) fb dk bk w)) :=
  ⟨freshB hd F, (if freshB hd F then tkD F else []), (if ackB hd F then layL true (tkN F) [] else []), (if freshB hd F then nxt hd else hd), ackL_lt hd F, ackL_len hd F, fun _ _ _ h hv => rhear_any h hv hl hx, fun _ _ _ _ _ _ h hv => rrhear_any h hv hl hx⟩

def XorI (V : Value) (n : Nat) (w wr : World) : Prop := ∃ e : List Nat, Own BK 5 wr V e ∧ e.length = n ∧ (∀ y ∈ e, y < 256) ∧ Kp (fun k => V.ownBlock = some k) w wr

set_option maxHeartbeats 16000000 in
set_option maxRecDepth 100000 in
theorem plays14_any {w : World} {v : Value} {l : List A14} (hv : Rd AK14 w v l) (hg : ∀ x ∈ l, x.ok w) (n0 h0 : Nat) (hn0 : n0 < 18446744073709551616) (hh0 : h0 < 18446744073709551616) : Calls Try.prog 6 #[.int .u64 (n0 : Int), .int .u64 (h0 : Int), v] w (LawR w) := by
  obtain ⟨A, cap, rfl⟩ := hv.shape
  have H := Lib.hid hv; have HG := Lib.hid hg
  clear hv hg
  go_enter Try.func6, Try.ntmps6
  go_wp2_with fail
  refine (shown14 _).mono ?_
  rintro e w1 ⟨rfl, k1⟩
  have K1 := Lib.hid k1
  clear k1
  go_wp2_with fail
  refine (newSnd_any w1 n0 hn0 _ rfl).mono ?_
  rintro e w2 ⟨ps, rfl, s2, k2, g2, l2⟩
  have S2 := Lib.hid s2; have K2 := Lib.hid (K1.out.trans k2); have G2 := Lib.hid g2; have L2 := Lib.hid l2
  clear s2 k2 g2 l2
  go_wp2_with fail
  refine (newRcv_any w2 h0 hh0 _ rfl).mono ?_
  rintro e w3 ⟨pr, rfl, r3, k3, g3, l3⟩
  have S3 := Lib.hid (S2.out.no k3); have R3 := Lib.hid r3; have K3 := Lib.hid (K2.out.trans k3)
  have G3 := Lib.hid g3; have L3 := Lib.hid l3
  clear r3 k3 g3 l3
  go_wp2_with fail
  refine (few_any (H.out.kpNo (((K3.out.alloc _).alloc _)))).mono ?_
  rintro e w4 ⟨v4, m, rfl, hm, f1, hm1, f2, hw4⟩
  have f1 := f1 w H.out
  obtain ⟨fl, hfl⟩ : ∃ fl, fl = l.take m := ⟨_, rfl⟩
  rw [← hfl] at f1 f2
  obtain ⟨A4, c4, rfl⟩ := f1.shape
  have hfg : ∀ x ∈ fl, x.ok w := fun x hx => HG.out x (by rw [hfl] at hx; exact List.mem_of_mem_take hx)
  have hfl100 : fl.length ≤ 100 := by rw [hfl, List.length_take]; omega
  obtain ⟨pv, hpv⟩ : ∃ pv, pv = w3.heap.size := ⟨_, rfl⟩
  obtain ⟨pw, hpw⟩ : ∃ pw, pw = w3.heap.size + 1 := ⟨_, rfl⟩
  have k34 : Kp No w3 w4 := by rw [← hw4]; exact ((Kp.refl _ _).alloc _).alloc _
  have bv : w4.heap[pv]? = some (.cells #[.int .u64 (n0 : Int), .bool false, .string (strB [])] 43 (0, 0)) := by rw [← hw4, hpv]; exact blk_alloc (blk_new w3 _) _
  have bq : w4.heap[pw]? = some (.cells #[.int .u64 (h0 : Int)] 46 (0, 0)) := by
    have e : pw = (w3.alloc (.cells #[.int .u64 (n0 : Int), .bool false, .string { data := #[] }] 43)).heap.size := by rw [hpw]; simp
    rw [← hw4, e]; exact blk_new _ _
  have hB : w4.heap.size = w3.heap.size + 2 := by rw [← hw4]; simp
  have hF4 : Four w w4.heap.size ps pr pv pw := by
    have a1 := K1.out.size; have a2 := K2.out.size; have a3 := K3.out.size; have a4 := G2.out; have a5 := L2.out; have a6 := G3.out; have a7 := L3.out; have a8 := (S3.out.blk); have a9 := lt_of_block a8
    exact ⟨by omega, by omega, by omega, by omega, by omega, by omega, by omega, by omega, by omega, by omega, by omega, by omega, by omega, by omega⟩
  have P0 : PlS w w4.heap.size ps pr pv pw n0 false [] (.slice none 0 0) [] #[.int .u64 (n0 : Int), .bool false, .string (strB [])] #[.int .u64 (h0 : Int)] h0 [] (.slice none 0 0) w4 :=
    ⟨S3.out.no k34, ⟨bv, rfl, rfl, rfl, hn0, fun e => by simp at e, fun x hx => by simp at hx⟩, fun _ => rfl, R3.out.no k34, ⟨bq, rfl, hh0⟩, Own.nil _ _ _, fun x hx => by simp at hx, by simp, K3.out.trans k34, by simp [Value.ownBlock], by simp [Value.ownBlock], Nat.le_refl _⟩
  have HP0 := Lib.hid P0; have F4 := Lib.hid hF4; have HF1 := Lib.hid f1; have HF2 := Lib.hid f2; have HFG := Lib.hid hfg
  rw [← hpw, ← hpv]
  obtain ⟨B, hBe⟩ : ∃ B, B = w4.heap.size := ⟨_, rfl⟩
  rw [← hBe] at HP0 F4
  clear hw4 hpv hpw hBe hB hF4 P0 bv bq k34 f1 f2 hfg hfl
  go_wp2
  go_loopw [12, 48] (fun bk i wr => ∃ k : Nat, i = .int .i64 k ∧ k ≤ fl.length ∧ PlI w B ps pr pv pw bk wr) (fun _ i _ => fl.length - (intOf i).toNat)
  case atStart => exact ⟨0, rfl, by omega, _, _, _, _, _, _, _, _, _, HP0.out⟩
  case round =>
    obtain ⟨k, rfl, hk, n, on, d, V, d', cs, cq, hd, bk, P⟩ := hrel
    obtain ⟨Ab, cb, rfl⟩ := P.bo.rd.shape
    have HP := Lib.hid P
    by_cases hlt : k < fl.length
    · have hltI : (k : Int) < (fl.length : Int) := by omega
      have hwk : IntKind.i64.wrap ((k : Int) + 1) = (k : Int) + 1 := IntWalk.i64_in _ (by omega)
      obtain ⟨x, hx⟩ : ∃ x, fl[k]? = some x := ⟨_, List.getElem?_eq_getElem hlt⟩
      have hxo := HFG.out x (List.mem_of_getElem? hx)
      have hx300 := HF2.out x (List.mem_of_getElem? hx)
      rcases HF1.out with ⟨_, he⟩ | ⟨g, o, cap', hv, _⟩
      · rw [he] at hlt; simp at hlt
      simp only [Value.slice.injEq] at hv
      obtain ⟨rfl, _, rfl⟩ := hv
      obtain ⟨hc0, hc1⟩ := (HF1.out.kpNo P.kp).actAt hx
      have HX := Lib.hid hx; have XO := Lib.hid hxo
      obtain ⟨Q, hQ⟩ : ∃ Q, Q = pktL n on d := ⟨_, rfl⟩
      have hQx : ∀ y ∈ Q, y < 256 := by rw [hQ]; exact pktL_lt _ _ _
      have hQl : Q.length ≤ 1000000 := by rw [hQ]; exact Nat.le_trans (pktL_len _ _ _ fun e => (P.s.ok e).1) (by decide)
      have HQ := Lib.hid hQ; have HQX := Lib.hid hQx
      have HQ' := Lib.hid ((pkt_same P.eq).trans hQ.symm)
      have hWB : wr.heap.size ≥ B := P.le
      obtain ⟨km, hkm⟩ : ∃ km, km = x.k % 5 := ⟨_, rfl⟩
      have kmI : (x.k : Int) % 5 = (km : Int) := by omega
      have hk256 := hxo.2
      clear P hx hxo hQ hQx hlt
      go_wp2_with fail
      refine (packet_any (HP.out.s.no ((Kp.refl _ _).alloc _))).mono ?_
      rintro e w5 ⟨v5, rfl, k5⟩
      rw [← HQ.out] at k5
      obtain ⟨A5, c5, rfl⟩ := k5.own.rd.shape
      have P5 := Lib.hid ((HP.out.no F4.out ((Kp.refl No wr).alloc _)).no F4.out k5.kp)
      have B5 := Lib.hid (k5.kp.blk (blk_new wr _) (no_no _))
      have K5 := Lib.hid k5
      clear k5
      go_wp2_with fail
      refine (rpacket_any P5.out.v).mono ?_
      rintro e w6 ⟨v6, rfl, k6⟩
      rw [HQ'.out] at k6
      obtain ⟨A6, c6, rfl⟩ := k6.own.rd.shape
      have P6 := Lib.hid (P5.out.no F4.out k6.kp)
      have st5 := (K5.out.own.rd.kpNo k6.kp).str
      have st6 := k6.own.rd.str
      have b6 := k6.kp.blk B5.out (no_no _)
      have q0 : w6.cell? ⟨wr.heap.size, 0, none⟩ = some (.int .u8 (x.k : Int)) := (blk_cell b6 0).trans rfl
      have q1 : w6.cell? ⟨wr.heap.size, 1, none⟩ = some (.slice x.s.A x.s.b.length x.s.c) := (blk_cell b6 1).trans rfl
      have B6 := Lib.hid b6
      have K56 := Lib.hid k6.kp
      clear k6 b6
      have hm5 : km = 0 ∨ km = 2 ∨ km = 4 ∨ km = 1 ∨ km = 3 := by omega
      clear hkm
      rcases hm5 with rfl | rfl | rfl | rfl | rfl
      · have q1n : ∀ o, (w6.alloc o).cell? ⟨wr.heap.size, 1, none⟩ = some (.slice x.s.A x.s.b.length x.s.c) := fun o => (blk_cell (blk_alloc B6.out o) 1).trans rfl
        have xl : x.s.b.length ≤ 1000000 := by omega
        go_wp2_with (at_builtin; refine wpl_append elB rfl (.tmp 116) (.tmp 118) rfl rfl rfl (l := []) (m := x.s.b) ?c1 ?c2 ?c3 ?c4 ?c5)
        case c1 => exact (NewS.empty BK 5 w6).own
        case c2 => exact (XO.out.1.kpNo (P6.out.kp.alloc _)).1
        case c3 => have z : x.s.b.length ≤ maxLen := (by unfold maxLen; omega); simpa using z
        case c4 => have z : x.s.b.length ≤ 140737488355328 := (by omega); simpa using z
        case c5 =>
          intro v7 w7 m1 m2 m3
          have o7 : NewS BK 5 w6 w7 v7 x.s.b := (NewS.empty BK 5 w6).app (Kp.refl _ _) m1 m2 m3 (by simp)
          have P7 := Lib.hid ((P6.out.no F4.out o7.kp))
          obtain ⟨A7, c7, rfl⟩ := o7.own.rd.shape
          have O7 := Lib.hid o7
          have q17 := o7.kp.cellS q1 (no_no _)
          have st7 : ∀ w', Kp No w w' → (convert 23 9 (.slice x.s.A x.s.b.length x.s.c)).run Try.prog w' = .ok (.string (strB x.s.b)) w' := fun w' hk => (XO.out.1.kpNo hk).1.str
          have ST7 := Lib.hid st7
          have st7a := st7 w7.drew P7.out.kp.drew
          clear m1 m2 m3 o7 st7
          go_wp2
          go_region_held3 (fun w' => w'.cell? ⟨wr.heap.size, 1, none⟩ = some (.slice x.s.A x.s.b.length x.s.c) ∧ (convert 23 9 (.slice x.s.A x.s.b.length x.s.c)).run Try.prog w' = .ok (.string (strB x.s.b)) w') (first | exact ⟨by assumption, by assumption⟩ | exact ⟨q17, st7a⟩)
            (first
              | (go_at_call 22; refine (rtell_any v8.out XO.out.1.2 (strB x.s.b) rfl).mono ?_; rintro e w9 ⟨rfl, k9, s9⟩; have q19 := k9.cellS q18 (fun e => by have e : wr.heap.size = pv := e; have := F4.out.v; omega); have st9 := ST7.out w9 (KW8.out.newer k9 F4.out.v0); have P9 := Lib.hid ((P7.out.no F4.out (Kp.refl No w7).drew).tell F4.out K8.out S8.out V8.out k9 s9); have K9 := Lib.hid k9; clear k9 s9)
              | (go_at_call 21; refine (tell_any (w := w7.drew) (P7.out.no F4.out (Kp.refl No w7).drew).s (O7.out.own.rd.kpNo (Kp.refl No w7).drew) xl XO.out.1.2).mono ?_; rintro e w8 ⟨rfl, k8, V8', s8, v8'⟩; have q18 := k8.cellS (show w7.drew.cell? ⟨wr.heap.size, 1, none⟩ = _ from q17) (fun e => by have e : wr.heap.size = ps := e; have := F4.out.s; omega); have KW8 := Lib.hid (P7.out.kp.drew.newer k8 F4.out.s0); have st8 := ST7.out w8 KW8.out; have v8 := Lib.hid ((P7.out.no F4.out (Kp.refl No w7).drew).v.far k8 (fun e => F4.out.sv e.symm)); have K8 := Lib.hid k8; have S8 := Lib.hid s8; have V8 := Lib.hid v8'; clear k8 s8 v8'))
          have OW9 : Hid (Own BK 5 w9 (.slice A7 x.s.b.length c7) x.s.b) := Lib.hid (((O7.out.own.kpNo (Kp.refl No w7).drew).kp K8.out (kpv (fun g hg => Nat.le_trans P6.out.le (O7.out.ge g hg)) F4.out.s)).kp K9.out (kpv (fun g hg => Nat.le_trans P6.out.le (O7.out.ge g hg)) F4.out.v))
          have FAR : Hid (∀ w', Kp (fun k => (Value.slice A7 x.s.b.length c7).ownBlock = some k) w9 w' → PlI w B ps pr pv pw (.slice Ab bk.length cb) w') := Lib.hid fun w' hk => ⟨_, _, _, _, _, _, _, _, _, P9.out.far F4.out hk (fun k hk => Nat.le_trans P6.out.le (O7.out.ge k hk)) (fun g hg e => by
            have h1 := O7.out.ge g e
            have h2 := O7.out.own.lt e
            rcases V8.out g hg with h3 | h3
            · have := P6.out.s.own.lt h3; omega
            · have h3 : w7.heap.size ≤ g := h3
              omega) (fun g hg e => by
            have h1 := O7.out.ge g e
            have := P6.out.bo.lt hg; omega)⟩
          clear V8 P9 S8 v8 K8 K9 ST7 st7a st8 st9 q17 q18 q19 KW8
          obtain ⟨wo, rfl⟩ : ∃ wo : World, wo = wr := ⟨_, rfl⟩
          go_wp2
          go_loopw [131] (fun i wr2 => ∃ j : Nat, i = .int .i64 j ∧ j ≤ x.s.b.length ∧ XorI (.slice A7 x.s.b.length c7) x.s.b.length w9 wr2) (fun i _ => x.s.b.length - (intOf i).toNat)
          case atStart => exact ⟨0, rfl, by omega, x.s.b, OW9.out, rfl, XO.out.1.2, Kp.refl _ _⟩
          case round =>
            obtain ⟨j, rfl, hj, e, o1, o2, o3, o4⟩ := hrel
            have O1 := Lib.hid o1; have O2 := Lib.hid o2; have O3 := Lib.hid o3; have O4 := Lib.hid o4
            by_cases hjl : j < x.s.b.length
            · have hjI : (j : Int) < (x.s.b.length : Int) := by omega
              have hwj : IntKind.i64.wrap ((j : Int) + 1) = (j : Int) + 1 := IntWalk.i64_in _ (by omega)
              obtain ⟨z, hz⟩ : ∃ z, e[j]? = some z := ⟨_, List.getElem?_eq_getElem (by omega)⟩
              have hz256 := o3 z (List.mem_of_getElem? hz)
              obtain ⟨y, hy⟩ : ∃ y, y = z ^^^ 85 := ⟨_, rfl⟩
              have hy256 : y < 256 := by rw [hy]; exact Nat.xor_lt_two_pow (n := 8) hz256 (by decide)
              have hxor : bits .xor .u8 (z : Int) 85 = (y : Int) := by rw [hy]; exact bits_xor_u8_nat z 85 hz256 (by decide)
              have HYL := Lib.hid hy256
              rcases O1.out.b with ⟨e1', e2'⟩ | ⟨g5, cap5, e1', e2', _⟩
              · rw [e2'] at o2; simp at o2; omega
              simp only [Value.slice.injEq] at e1'
              obtain ⟨rfl, hlen, rfl⟩ := e1'
              have hxc := O1.out.rd.byteAt hz
              rw [Nat.zero_add] at hxc
              have hxf := O1.out.free j
              have hjl2 : j < e.length := by omega
              have HJ2 := Lib.hid hjl2
              clear hlen o1 o2 o3 o4 hy hz hy256 e2' hjl hjl2
              go_wp2
              have hk5 := Kp.one (w := wr) (p := g5) j (.int .u8 (y : Int))
              have WN := Lib.hid (O4.out.trans (hk5.mono (S2 := fun k => (Value.slice (some ⟨g5, 0, none⟩) x.s.b.length c7).ownBlock = some k) fun _ _ e => by rw [e]; rfl))
              have WO := Lib.hid (O1.out.setByte j y HJ2.out)
              clear hk5
              go_roundw
              case rel => exact ⟨j + 1, by go_num, by omega, e.set j y, WO.out, by rw [List.length_set]; exact O2.out, fun z hz => by rcases List.mem_or_eq_of_mem_set hz with hz | hz; exact O3.out z hz; rw [hz]; exact HYL.out, WN.out⟩
              case measure => simp [intOf]; omega
            · obtain rfl : j = x.s.b.length := by omega
              have hd0 : ¬ (x.s.b.length : Int) < (x.s.b.length : Int) := by omega
              have P10 := Lib.hid (FAR.out wr o4)
              clear o1 o2 o3 o4 hjl
              go_wp2
        
              obtain ⟨n9, on9, d9, V9, d9', cs9, cq9, hd9, bk9, P9⟩ := P10.out
              have z0 : wr.cell? ⟨pv, 0, none⟩ = some (.int .u64 (n9 : Int)) := P9.v.cells.1
              have z1 : wr.cell? ⟨pw, 0, none⟩ = some (.int .u64 (hd9 : Int)) := (blk_cell P9.q.blk 0).trans P9.q.c0
              have Q9 := Lib.hid P9
              clear P9
              go_wp2
              go_region_law (first
                | (go_simp; go_at_call 27; refine (told_any (w := wr.drew) (Q9.out.s.no (Kp.refl No _).drew)).mono ?_; rintro e wz ⟨rfl, rfl⟩)
                | (go_simp; go_at_call 28; refine (heard_any (w := wr.drew) (Q9.out.r.no (Kp.refl No _).drew)).mono ?_; rintro e wz ⟨rfl, rfl⟩))
              all_goals
                go_wp2
                go_roundw
                case rel => exact ⟨k + 1, by go_num, by omega, _, _, _, _, _, _, _, _, _, Q9.out.no F4.out (Kp.refl No _).drew⟩
                case measure => simp [intOf]; omega
      · go_wp2_with fail
        refine (shear_any P6.out.s P6.out.bo.rd (Nat.le_trans P6.out.bl (by decide)) P6.out.bx).mono ?_
        rintro e w7 ⟨rfl, k7, s7⟩
        have bo7 := Lib.hid (P6.out.bo.rd.kp k7 (kpv P6.out.bn F4.out.s))
        have v7 := Lib.hid (P6.out.v.far k7 (fun e => F4.out.sv e.symm))
        have K7 := Lib.hid k7; have S7 := Lib.hid s7
        clear k7 s7
        go_wp2_with fail
        refine (rshear_any v7.out bo7.out (Nat.le_trans P6.out.bl (by decide)) P6.out.bx).mono ?_
        rintro e w8 ⟨rfl, k8, s8⟩
        have P8 : Hid (PlI w B ps pr pv pw (.slice Ab bk.length cb) w8) := Lib.hid ⟨_, _, _, _, _, _, _, _, _, P6.out.shear F4.out K7.out S7.out k8 s8⟩
        clear k8 s8
        obtain ⟨n9, on9, d9, V9, d9', cs9, cq9, hd9, bk9, P9⟩ := P8.out
        have z0 : w8.cell? ⟨pv, 0, none⟩ = some (.int .u64 (n9 : Int)) := P9.v.cells.1
        have z1 : w8.cell? ⟨pw, 0, none⟩ = some (.int .u64 (hd9 : Int)) := (blk_cell P9.q.blk 0).trans P9.q.c0
        have Q9 := Lib.hid P9
        clear P9
        go_wp2
        go_region_law (first
          | (go_simp; go_at_call 27; refine (told_any (w := w8.drew) (Q9.out.s.no (Kp.refl No _).drew)).mono ?_; rintro e wz ⟨rfl, rfl⟩)
          | (go_simp; go_at_call 28; refine (heard_any (w := w8.drew) (Q9.out.r.no (Kp.refl No _).drew)).mono ?_; rintro e wz ⟨rfl, rfl⟩))
        all_goals
          go_wp2
          go_roundw
          case rel => exact ⟨k + 1, by go_num, by omega, _, _, _, _, _, _, _, _, _, Q9.out.no F4.out (Kp.refl No _).drew⟩
          case measure => simp [intOf]; omega
      · have xr := Lib.hid ((XO.out.1.kpNo P6.out.kp).1)
        have xl : x.s.b.length ≤ 1000000 := by omega
        go_wp2
        go_region_held3 (fun w' => w'.cell? ⟨wr.heap.size, 1, none⟩ = some (.slice x.s.A x.s.b.length x.s.c)) (first | assumption | exact q1)
          (first
            | (go_at_call 24; refine (rshear_any v7.out xr7.out xl XO.out.1.2).mono ?_; rintro e w8 ⟨rfl, k8, s8⟩; have q1b := k8.cellS q1a (fun e => by have e : wr.heap.size = pv := e; have := F4.out.v; omega); have P8 : Hid (PlI w B ps pr pv pw (.slice Ab bk.length cb) w8) := Lib.hid ⟨_, _, _, _, _, _, _, _, _, (P6.out.no F4.out (Kp.refl No w6).drew).shear F4.out K7.out S7.out k8 s8⟩; clear k8 s8)
            | (go_at_call 23; refine (shear_any (w := w6.drew) (P6.out.no F4.out (Kp.refl No w6).drew).s (xr.out.kpNo (Kp.refl No w6).drew) xl XO.out.1.2).mono ?_; rintro e w7 ⟨rfl, k7, s7⟩; have q1a := k7.cellS (show w6.drew.cell? ⟨wr.heap.size, 1, none⟩ = _ from q1) (fun e => by have e : wr.heap.size = ps := e; have := F4.out.s; omega); have v7 := Lib.hid ((P6.out.no F4.out (Kp.refl No w6).drew).v.far k7 (fun e => F4.out.sv e.symm)); have xr7 := Lib.hid ((XO.out.1.kpNo (P6.out.kp.drew.newer k7 F4.out.s0)).1); have K7 := Lib.hid k7; have S7 := Lib.hid s7; clear k7 s7))
        obtain ⟨n9, on9, d9, V9, d9', cs9, cq9, hd9, bk9, P9⟩ := P8.out
        have z0 : w8.cell? ⟨pv, 0, none⟩ = some (.int .u64 (n9 : Int)) := P9.v.cells.1
        have z1 : w8.cell? ⟨pw, 0, none⟩ = some (.int .u64 (hd9 : Int)) := (blk_cell P9.q.blk 0).trans P9.q.c0
        have Q9 := Lib.hid P9
        clear P9
        go_wp2
        go_region_law (first
          | (go_simp; go_at_call 27; refine (told_any (w := w8.drew) (Q9.out.s.no (Kp.refl No _).drew)).mono ?_; rintro e wz ⟨rfl, rfl⟩)
          | (go_simp; go_at_call 28; refine (heard_any (w := w8.drew) (Q9.out.r.no (Kp.refl No _).drew)).mono ?_; rintro e wz ⟨rfl, rfl⟩))
        all_goals
          go_wp2
          go_roundw
          case rel => exact ⟨k + 1, by go_num, by omega, _, _, _, _, _, _, _, _, _, Q9.out.no F4.out (Kp.refl No _).drew⟩
          case measure => simp [intOf]; omega
      · have fr := Lib.hid (K5.out.own.rd.kpNo K56.out)
        obtain ⟨fb, dk8, bk8, h2, hbx, hbl, rh, qh⟩ := hear_named hd Q hQl HQX.out
        have QH := Lib.hid qh
        have HBX := Lib.hid hbx; have HBL := Lib.hid hbl
        go_wp2_with fail
        refine (rh _ _ _ P6.out.r fr.out).mono ?_
        clear rh qh hbx hbl
        rintro e w7 ⟨va, vb, rfl, k7, r7, oa, ob, ga, gb⟩
        obtain ⟨Aa, ca, rfl⟩ := oa.rd.shape
        obtain ⟨Ab', cb', rfl⟩ := ob.rd.shape
        have fr7 := Lib.hid (fr.out.kp k7 (fun g hg e => by have e : g = pr := e; have h1 := Nat.le_trans ((Kp.refl No wr).alloc _).size (K5.out.ge g hg); have h2 := F4.out.r; omega))
        have q7 := Lib.hid (P6.out.q.far k7 (fun e => F4.out.rq e.symm))
        have K7 := Lib.hid k7; have R7 := Lib.hid r7; have OA := Lib.hid oa; have OB := Lib.hid ob; have GA := Lib.hid ga; have GB := Lib.hid gb
        clear k7 r7 oa ob ga gb
        go_wp2_with fail
        refine (QH.out _ _ _ _ _ _ q7.out fr7.out).mono ?_
        rintro e w8 ⟨vc, vd, rfl, k8, r8, oc, od, gc, gd⟩
        have sa := (OA.out.kp k8 (kpv (fun g hg => Nat.le_trans P6.out.le (GA.out g hg)) F4.out.q)).rd.str
        have sb := (OB.out.kp k8 (kpv (fun g hg => Nat.le_trans P6.out.le (GB.out g hg)) F4.out.q)).rd.str
        have sc := oc.rd.str
        have sd := od.rd.str
        obtain ⟨Ac, cc, rfl⟩ := oc.rd.shape
        obtain ⟨Ad, cd, rfl⟩ := od.rd.shape
        have P8 : Hid (PlI w B ps pr pv pw (.slice Ad bk8.length cd) w8) := Lib.hid ⟨_, _, _, _, _, _, _, _, _, (P6.out.rhear F4.out K7.out R7.out k8 r8).back od HBX.out HBL.out (fun g hg => Nat.le_trans P6.out.le (Nat.le_trans K7.out.size (gd g hg)))⟩
        clear k8 r8 oc od gc gd
        obtain ⟨n9, on9, d9, V9, d9', cs9, cq9, hd9, bk9, P9⟩ := P8.out
        have z0 : w8.cell? ⟨pv, 0, none⟩ = some (.int .u64 (n9 : Int)) := P9.v.cells.1
        have z1 : w8.cell? ⟨pw, 0, none⟩ = some (.int .u64 (hd9 : Int)) := (blk_cell P9.q.blk 0).trans P9.q.c0
        have Q9 := Lib.hid P9
        clear P9
        go_wp2
        go_region_law (first
          | (go_simp; go_at_call 27; refine (told_any (w := w8.drew) (Q9.out.s.no (Kp.refl No _).drew)).mono ?_; rintro e wz ⟨rfl, rfl⟩)
          | (go_simp; go_at_call 28; refine (heard_any (w := w8.drew) (Q9.out.r.no (Kp.refl No _).drew)).mono ?_; rintro e wz ⟨rfl, rfl⟩))
        all_goals
          go_wp2
          go_roundw
          case rel => exact ⟨k + 1, by go_num, by omega, _, _, _, _, _, _, _, _, _, Q9.out.no F4.out (Kp.refl No _).drew⟩
          case measure => simp [intOf]; omega
      · have xl : x.s.b.length ≤ 1000000 := by omega
        have fr := Lib.hid ((XO.out.1.kpNo P6.out.kp).1)
        obtain ⟨fb, dk8, bk8, h2, hbx, hbl, rh, qh⟩ := hear_named hd x.s.b xl XO.out.1.2
        have QH := Lib.hid qh
        have HBX := Lib.hid hbx; have HBL := Lib.hid hbl
        go_wp2_with fail
        refine (rh _ _ _ P6.out.r fr.out).mono ?_
        clear rh qh hbx hbl
        rintro e w7 ⟨va, vb, rfl, k7, r7, oa, ob, ga, gb⟩
        obtain ⟨Aa, ca, rfl⟩ := oa.rd.shape
        obtain ⟨Ab', cb', rfl⟩ := ob.rd.shape
        have fr7 := Lib.hid ((XO.out.1.kpNo (P6.out.kp.newer k7 F4.out.r0)).1)
        have q7 := Lib.hid (P6.out.q.far k7 (fun e => F4.out.rq e.symm))
        have K7 := Lib.hid k7; have R7 := Lib.hid r7; have OA := Lib.hid oa; have OB := Lib.hid ob; have GA := Lib.hid ga; have GB := Lib.hid gb
        clear k7 r7 oa ob ga gb
        go_wp2_with fail
        refine (QH.out _ _ _ _ _ _ q7.out fr7.out).mono ?_
        rintro e w8 ⟨vc, vd, rfl, k8, r8, oc, od, gc, gd⟩
        have sa := (OA.out.kp k8 (kpv (fun g hg => Nat.le_trans P6.out.le (GA.out g hg)) F4.out.q)).rd.str
        have sb := (OB.out.kp k8 (kpv (fun g hg => Nat.le_trans P6.out.le (GB.out g hg)) F4.out.q)).rd.str
        have sc := oc.rd.str
        have sd := od.rd.str
        obtain ⟨Ac, cc, rfl⟩ := oc.rd.shape
        obtain ⟨Ad, cd, rfl⟩ := od.rd.shape
        have P8 : Hid (PlI w B ps pr pv pw (.slice Ad bk8.length cd) w8) := Lib.hid ⟨_, _, _, _, _, _, _, _, _, (P6.out.rhear F4.out K7.out R7.out k8 r8).back od HBX.out HBL.out (fun g hg => Nat.le_trans P6.out.le (Nat.le_trans K7.out.size (gd g hg)))⟩
        clear k8 r8 oc od gc gd
        obtain ⟨n9, on9, d9, V9, d9', cs9, cq9, hd9, bk9, P9⟩ := P8.out
        have z0 : w8.cell? ⟨pv, 0, none⟩ = some (.int .u64 (n9 : Int)) := P9.v.cells.1
        have z1 : w8.cell? ⟨pw, 0, none⟩ = some (.int .u64 (hd9 : Int)) := (blk_cell P9.q.blk 0).trans P9.q.c0
        have Q9 := Lib.hid P9
        clear P9
        go_wp2
        go_region_law (first
          | (go_simp; go_at_call 27; refine (told_any (w := w8.drew) (Q9.out.s.no (Kp.refl No _).drew)).mono ?_; rintro e wz ⟨rfl, rfl⟩)
          | (go_simp; go_at_call 28; refine (heard_any (w := w8.drew) (Q9.out.r.no (Kp.refl No _).drew)).mono ?_; rintro e wz ⟨rfl, rfl⟩))
        all_goals
          go_wp2
          go_roundw
          case rel => exact ⟨k + 1, by go_num, by omega, _, _, _, _, _, _, _, _, _, Q9.out.no F4.out (Kp.refl No _).drew⟩
          case measure => simp [intOf]; omega
    · obtain rfl : k = fl.length := by omega
      have hd0 : ¬ (fl.length : Int) < (fl.length : Int) := by omega
      have KP := Lib.hid P.kp
      clear P HP
      go_wp2
      go_ret
      exact ⟨rfl, KP.out⟩
end Go.Proofs.Ytnejjjoedmefkaa
