/- Arguments: bytes, packets; Slices of bytes in rows; Acts of carfaxlaw18: arguments, few; RobotPlays: the walk; RobotPlays: the row's walk. No condition. -/
import Derived.Test.YtbafdfkmakehnaaM6
import Derived.Test.YtbafdfkmakehnaaM1
import Derived.OpenShut
import Derived.Lib.SmallJoins
import Derived.Test.YtbafdfkmakehnaaM3
import Derived.Deep.LoopGhost
import Derived.Deep.CutBlock
import Derived.Deep.DeepCutAuto
import Derived.Deep.Cut
import Derived.Deep.CutRange
import Derived.Deep.RegionHeld3
import Derived.StillTailTactics

namespace Go.Proofs.Ytbafdfkmakehnaa
set_option linter.unusedVariables false
set_option linter.unusedSimpArgs false
open Go.ChangeShapes Go.WideShapes Go.ChangeAt Go.RowKit Go.Joins

theorem own : ownKnob Try.prog.godebug = none := by kernel_rfl
theorem laid : laidOutB Try.prog = true := by kernel_rfl

theorem Kd.encs_split {α : Type} (K : Kd α) (l : List α) : ∀ (j : Nat) (u : Value), (K.encs l)[j]? = some u → ∃ i x j', l[i]? = some x ∧ (K.enc x)[j']? = some u ∧ j = i * K.sz + j' := by
  induction l with
  | nil => intro j u h; simp [Kd.encs] at h
  | cons a l ih =>
    intro j u h
    rw [K.encs_cons] at h
    rcases Nat.lt_or_ge j (K.enc a).length with hj | hj
    · rw [List.getElem?_append_left hj] at h
      exact ⟨0, a, j, rfl, h, by omega⟩
    · rw [List.getElem?_append_right hj, K.len] at h
      obtain ⟨i, x, j', h1, h2, h3⟩ := ih _ _ h
      rw [K.len] at hj
      refine ⟨i + 1, x, j', by simpa using h1, h2, ?_⟩
      rw [Nat.add_mul, Nat.one_mul]; omega
theorem RdA.rd {α : Type} {K : Kd α} {w : World} {A : Option Addr} {n cap : Nat} {l : List α} (h : RdA K w (.slice A n cap) l) (h1 : l.length ≤ cap) (h2 : cap ≤ maxLen) : Rd K w (.slice A l.length cap) l := by
  cases l with
  | nil => exact Rd.empty K w A cap
  | cons a l =>
    obtain ⟨g, o, rfl, _⟩ := h.at (i := 0) (x := a) rfl
    refine .inr ⟨g, o, cap, rfl, h1, h2, fun j u hu => ?_⟩
    obtain ⟨i, x, j', e1, e2, rfl⟩ := K.encs_split _ _ _ hu
    obtain ⟨g', o', hg, hc⟩ := h.at e1
    simp only [Option.some.injEq, Addr.mk.injEq] at hg
    obtain ⟨rfl, rfl, _⟩ := hg
    rw [← Nat.add_assoc]
    exact hc j' u e2

section
variable {H : Type} {enc : TypeId × Value → H} {w : World} {base : Nat} {spare : Nat → Bool} {held : Bool}

theorem byte_dec {n : Nat} {cs : List Value} {y : DataW H × List MemPlace} (h : DataW.trod enc Try.prog w base spare held n 5 cs = some y) : ∃ x : Nat, cs = BK.enc x ∧ x < 256 := by
  obtain ⟨k, e0, _, wk⟩ := DataW.trod_int Try.underlying5 h
  have := bounds_u8 wk
  refine ⟨k.toNat, ?_, by omega⟩
  rw [e0]
  show [Value.int .u8 k] = [.int .u8 ((k.toNat : Nat) : Int)]
  rw [Int.toNat_of_nonneg this.1]
set_option maxRecDepth 100000 in
/-- Bytes that came in. -/
theorem bytes_dec {n : Nat} {v : Value} {y : DataW H × List MemPlace} (h : DataW.trod enc Try.prog w base spare held n 27 [v] = some y) : ∃ l : List Nat, Rd BK w v l ∧ ∀ x ∈ l, x < 256 := by
  obtain ⟨l, h1, h2, A, cap, rfl, h3, h4⟩ := open_rows (K := BK) (fun x : Nat => x < 256) Try.underlying27 (by kernel_rfl) (fun n cs' y hy => byte_dec hy) h
  exact ⟨l, h1.rd h3 h4, h2⟩
set_option maxRecDepth 100000 in
theorem open_bytes {v : Value} {d : DataW H} {p : List MemPlace} {r : Reach} {b0 : Nat} (hv : Value.okWide Try.prog w r b0 27 v) (h : DataW.Trod enc Try.prog w base spare held 27 v d p) : ∃ l : List Nat, Rd BK w v l ∧ ∀ x ∈ l, x < 256 := by
  obtain ⟨a0, len, cap, rfl⟩ := okWide_slice Try.underlying27 hv
  obtain ⟨fuel, hf⟩ := h
  exact bytes_dec hf
set_option maxRecDepth 100000 in
theorem open_packet {v : Value} {d : DataW H} {p : List MemPlace} {r : Reach} {b0 : Nat} (hv : Value.okWide Try.prog w r b0 40 v) (h : DataW.Trod enc Try.prog w base spare held 40 v d p) :
    ∃ (hd : Bool) (n : Nat) (v2 : Value) (l : List Nat), v = .agg #[.bool hd, .int .u64 (n : Int), v2] ∧ n < 18446744073709551616 ∧ Rd BK w v2 l ∧ ∀ x ∈ l, x < 256 := by
  obtain ⟨v0, v1, v2, y0, y1, y2, n, rfl, _, _, h0, h1, h2⟩ := open_agg3 Try.underlying40 (by kernel_rfl) (by kernel_rfl) hv h
  obtain ⟨b, e0, _⟩ := DataW.trod_bool Try.underlying4 h0
  obtain ⟨k, e1, _, wk⟩ := DataW.trod_int Try.underlying30 h1
  obtain ⟨l, h3, h4⟩ := bytes_dec h2
  simp at e0 e1
  subst e0 e1
  have hb := bounds_u64 wk
  refine ⟨b, k.toNat, v2, l, ?_, by omega, h3, h4⟩
  rw [Int.toNat_of_nonneg hb.1]
end
end Go.Proofs.Ytbafdfkmakehnaa

namespace Go.Proofs.Ytbafdfkmakehnaa
set_option linter.unusedVariables false
set_option linter.unusedSimpArgs false
open Go.ChangeShapes Go.WideShapes Go.ChangeAt Go.RowKit Go.Joins

/-- A slice's head, and what it reads as. -/
structure SlH where
  A : Option Addr
  c : Nat
  b : List Nat
def SlH.val (x : SlH) : Value := .slice x.A x.b.length x.c
def SHK : Kd SlH := { sz := 1, enc := fun x => [x.val], len := fun _ => rfl, one := by intro a v hv; simp at hv; subst hv; rfl, pos := by decide }
def SlH.ok (w : World) (x : SlH) : Prop := Rd BK w x.val x.b ∧ ∀ y ∈ x.b, y < 256
theorem SlH.ok.kpNo {w w' : World} {x : SlH} (h : x.ok w) (hk : Kp No w w') : x.ok w' := ⟨h.1.kpNo hk, h.2⟩
theorem Rd.slAt {w : World} {l : List SlH} {g o n cap : Nat} (h : Rd SHK w (.slice (some ⟨g, o, none⟩) n cap) l) {i : Nat} {x : SlH} (hx : l[i]? = some x) : w.cell? ⟨g, o + i, none⟩ = some (.slice x.A x.b.length x.c) := by
  have := h.at rfl hx (j := 0) rfl
  simpa [SHK, SlH.val] using this

section
variable {H : Type} {enc : TypeId × Value → H} {w : World} {base : Nat} {spare : Nat → Bool} {held : Bool}
theorem slh_dec {n : Nat} {cs : List Value} {y : DataW H × List MemPlace} (h : DataW.trod enc Try.prog w base spare held n 27 cs = some y) : ∃ x : SlH, cs = SHK.enc x ∧ x.ok w := by
  have hc : ∃ v, cs = [v] := by
    rcases Go.Deep.open_slice Try.underlying27 h with ⟨h0, _⟩ | ⟨a, len, cap, m, n, D, Pl, hcs, _⟩
    · exact ⟨_, h0⟩
    · exact ⟨_, hcs⟩
  obtain ⟨v, rfl⟩ := hc
  obtain ⟨b, h1, h2⟩ := bytes_dec h
  obtain ⟨A, c, rfl⟩ := h1.shape
  exact ⟨⟨A, c, b⟩, rfl, h1, h2⟩
end
end Go.Proofs.Ytbafdfkmakehnaa

namespace Go.Proofs.Ytbafdfkmakehnaa
set_option linter.unusedVariables false
set_option linter.unusedSimpArgs false
open Go.ChangeShapes Go.WideShapes Go.ChangeAt Go.RowKit Go.Joins

structure A18 where
  k : Nat
  xk : Nat
  xc : Int
  xp : Int
  n : Nat
  s : SlH
def AK18 : Kd A18 := { sz := 6, enc := fun x => [.int .u8 (x.k : Int), .int .u8 (x.xk : Int), .int .i64 x.xc, .int .i64 x.xp, .int .u64 (x.n : Int), x.s.val], len := fun _ => rfl, one := by intro a v hv; simp at hv; rcases hv with rfl | rfl | rfl | rfl | rfl | rfl <;> rfl, pos := by decide }
theorem elA18 : ElT Try.prog 47 53 AK18 64 := ElT.of (z := .agg #[.int .u8 0, .int .u8 0, .int .i64 0, .int .i64 0, .int .u64 0, .slice none 0 0]) (by kernel_rfl) (by kernel_rfl) rfl
def A18.ok (w : World) (x : A18) : Prop := x.s.ok w ∧ x.k < 256 ∧ x.xk < 256 ∧ x.n < 18446744073709551616
theorem Rd.act18At {w : World} {l : List A18} {g o n cap : Nat} (h : Rd AK18 w (.slice (some ⟨g, o, none⟩) n cap) l) {i : Nat} {x : A18} (hx : l[i]? = some x) :
    w.cell? ⟨g, o + i * 6, none⟩ = some (.int .u8 (x.k : Int)) ∧ w.cell? ⟨g, o + i * 6 + 1, none⟩ = some (.int .u8 (x.xk : Int)) ∧ w.cell? ⟨g, o + i * 6 + 2, none⟩ = some (.int .i64 x.xc) ∧ w.cell? ⟨g, o + i * 6 + 3, none⟩ = some (.int .i64 x.xp) ∧
      w.cell? ⟨g, o + i * 6 + 4, none⟩ = some (.int .u64 (x.n : Int)) ∧ w.cell? ⟨g, o + i * 6 + 5, none⟩ = some (.slice x.s.A x.s.b.length x.s.c) :=
  ⟨h.at rfl hx (j := 0) rfl, h.at rfl hx (j := 1) rfl, h.at rfl hx (j := 2) rfl, h.at rfl hx (j := 3) rfl, h.at rfl hx (j := 4) rfl, h.at rfl hx (j := 5) rfl⟩

section
variable {H : Type} {enc : TypeId × Value → H} {w : World} {base : Nat} {spare : Nat → Bool} {held : Bool}
set_option maxRecDepth 100000 in
theorem act_dec {n : Nat} {cs : List Value} {y : DataW H × List MemPlace} (h : DataW.trod enc Try.prog w base spare held n 32 cs = some y) : ∃ (k : Nat) (c p : Int), cs = [.int .u8 (k : Int), .int .i64 c, .int .i64 p] ∧ k < 256 := by
  obtain ⟨ys, n', rfl, hy, hlen, hyl, hf⟩ := DataW.trod_struct Try.underlying32 h
  have hc : Try.prog.cellsOf 32 = 3 := by kernel_rfl
  have hu : Try.prog.cellsOf 5 = 1 := by kernel_rfl
  have hi : Try.prog.cellsOf 3 = 1 := by kernel_rfl
  rw [hc] at hlen
  match cs, hlen with
  | [c0, c1, c2], _ =>
    match ys, hyl with
    | [y0, y1, y2], _ =>
      have h0 := hf 0 _ rfl
      have h1 := hf 1 _ rfl
      have h2 := hf 2 _ rfl
      simp [hu, hi] at h0 h1 h2
      obtain ⟨k, e0, _, wk⟩ := DataW.trod_int Try.underlying5 h0
      obtain ⟨c, e1, _, _⟩ := DataW.trod_int Try.underlying3 h1
      obtain ⟨p, e2, _, _⟩ := DataW.trod_int Try.underlying3 h2
      have hk := bounds_u8 wk
      simp at e0 e1 e2
      refine ⟨k.toNat, c, p, ?_, by omega⟩
      rw [e0, e1, e2, Int.toNat_of_nonneg hk.1]
set_option maxRecDepth 100000 in
theorem act18_dec {n : Nat} {cs : List Value} {y : DataW H × List MemPlace} (h : DataW.trod enc Try.prog w base spare held n 53 cs = some y) : ∃ x : A18, cs = AK18.enc x ∧ x.ok w := by
  obtain ⟨ys, n', rfl, hy, hlen, hyl, hf⟩ := DataW.trod_struct Try.underlying53 h
  have hc : Try.prog.cellsOf 53 = 6 := by kernel_rfl
  have hu : Try.prog.cellsOf 5 = 1 := by kernel_rfl
  have ha : Try.prog.cellsOf 32 = 3 := by kernel_rfl
  have h64 : Try.prog.cellsOf 30 = 1 := by kernel_rfl
  have hb : Try.prog.cellsOf 27 = 1 := by kernel_rfl
  rw [hc] at hlen
  match cs, hlen with
  | [c0, c1, c2, c3, c4, c5], _ =>
    match ys, hyl with
    | [y0, y1, y2, y3], _ =>
      have h0 := hf 0 _ rfl
      have h1 := hf 1 _ rfl
      have h2 := hf 2 _ rfl
      have h3 := hf 3 _ rfl
      simp [hu, ha, h64, hb] at h0 h1 h2 h3
      obtain ⟨k, e0, _, wk⟩ := DataW.trod_int Try.underlying5 h0
      obtain ⟨xk, xc, xp, e1, wx⟩ := act_dec h1
      obtain ⟨n, e2, _, wn⟩ := DataW.trod_int Try.underlying30 h2
      obtain ⟨x, e3, ok⟩ := slh_dec h3
      have hk := bounds_u8 wk
      have hn := bounds_u64 wn
      simp at e0 e1 e2
      have e3' : c5 = x.val := by simpa [SHK] using e3
      obtain ⟨rfl, rfl, rfl⟩ := e1
      refine ⟨⟨k.toNat, xk, xc, xp, n.toNat, x⟩, ?_, ok, by show k.toNat < 256; omega, wx, by show n.toNat < _; omega⟩
      rw [e0, e2, e3']
      show [Value.int .u8 k, .int .u8 (xk : Int), .int .i64 xc, .int .i64 xp, .int .u64 n, x.val] = [.int .u8 ((k.toNat : Nat) : Int), .int .u8 (xk : Int), .int .i64 xc, .int .i64 xp, .int .u64 ((n.toNat : Nat) : Int), x.val]
      rw [Int.toNat_of_nonneg hk.1, Int.toNat_of_nonneg hn.1]
set_option maxRecDepth 100000 in
theorem open_acts18 {v : Value} {d : DataW H} {p : List MemPlace} {r : Reach} {b0 : Nat} (hv : Value.okWide Try.prog w r b0 47 v) (h : DataW.Trod enc Try.prog w base spare held 47 v d p) : ∃ l : List A18, Rd AK18 w v l ∧ ∀ x ∈ l, x.ok w := by
  obtain ⟨a0, len, cap, rfl⟩ := okWide_slice Try.underlying47 hv
  obtain ⟨fuel, hf⟩ := h
  obtain ⟨l, h1, h2, A, cap', hv', h3, h4⟩ := open_rows (K := AK18) (A18.ok w) Try.underlying47 (by kernel_rfl) (fun n cs' y hy => act18_dec hy) hf
  simp only [Value.slice.injEq] at hv'
  obtain ⟨rfl, rfl, rfl⟩ := hv'
  exact ⟨l, h1.rd h3 h4, h2⟩
end

/-- What few hands back. -/
def Few18R (v : Value) (l : List A18) (w : World) (e : Ending) (w' : World) : Prop := ∃ v' m, e = .returned v' ∧ m ≤ l.length ∧ (∀ w0, Rd AK18 w0 v l → Rd AK18 w0 v' (l.take m)) ∧ m ≤ 150 ∧ (∀ x ∈ l.take m, x.s.b.length ≤ 300) ∧ w = w'
theorem Rd.uptoD {α : Type} {K : Kd α} {P : Program} {t e : TypeId} {bytes : Nat} (E : ElT P t e K bytes) {w0 : World} {v v2 : Value} {l : List α} (h : Rd K w0 v l) (p : Nat) (hp : p ≤ l.length) (x : Int) (hx : x = p)
    (hr : ∀ w', (Instr.slice t v none (some (.int .i64 x)) none).run P w' = .ok v2 w') : Rd K w0 v2 (l.take p) := by
  obtain ⟨v3, h1, h2, _⟩ := h.upto E p hp x hx
  have := (h1 w0).symm.trans (hr w0)
  simp only [Result.ok.injEq, and_true] at this
  rw [← this]; exact h2
theorem Rd.lenL {α : Type} {K : Kd α} {w : World} {v : Value} {l : List α} (h : Rd K w v l) : l.length ≤ maxLen := by
  rcases h with ⟨_, rfl⟩ | ⟨_, _, _, _, h1, h2, _⟩
  · simp
  · omega

set_option maxRecDepth 100000 in
theorem few18_any {w : World} {v : Value} {l : List A18} (hv : Rd AK18 w v l) : Calls Try.prog 21 #[v] w (Few18R v l w) := by
  have HL := Lib.hid hv.lenL
  obtain ⟨A, cap, rfl⟩ := hv.shape
  have H := Lib.hid hv
  clear hv
  go_enter Try.func21, Try.ntmps21
  go_wp2
  go_loop [6] (fun i => ∃ k : Nat, i = .int .i64 k ∧ k ≤ l.length ∧ k ≤ 150 ∧ ∀ x ∈ l.take k, x.s.b.length ≤ 300) (fun i => l.length - (intOf i).toNat)
  case atStart => exact ⟨0, rfl, by omega, by omega, fun x hx => by simp at hx⟩
  case round =>
    obtain ⟨k, rfl, hk, hk1, hx⟩ := hrel
    have HXS := Lib.hid hx
    clear hx
    by_cases hlt : k < l.length
    · obtain ⟨x, hx⟩ : ∃ x, l[k]? = some x := ⟨_, List.getElem?_eq_getElem hlt⟩
      have hltI : (k : Int) < (l.length : Int) := by omega
      have hml := HL.out
      have hwk : IntKind.i64.wrap ((k : Int) + 1) = (k : Int) + 1 := IntWalk.i64_in _ (by omega)
      obtain ⟨s, A2, c2, HS, hsl, hrun, HD, _⟩ := H.out.upto2 elA18 k (by omega) (k : Int) rfl
      have HRUN := Lib.hid hrun
      rcases H.out with ⟨_, he⟩ | ⟨g, o, cap', hv, _⟩
      · rw [he] at hlt; simp at hlt
      simp only [Value.slice.injEq] at hv
      obtain ⟨rfl, _, rfl⟩ := hv
      obtain ⟨hc0, hc1, hc2, hc3, hc4, hc5⟩ := H.out.act18At hx
      have HSN := Lib.hid (show l.take (k + 1) = l.take k ++ [x] by rw [List.take_add_one, hx]; rfl)
      clear hx hlt hml hc0 hc1 hc2 hc3 hc4
      by_cases h100 : k < 150
      · have h1I : ¬ (150 : Int) ≤ (k : Int) := by omega
        by_cases h300 : 300 < x.s.b.length
        · have h3I : (300 : Int) < (x.s.b.length : Int) := by omega
          clear h300 hsl
          go_wp2
          go_ret
          exact ⟨_, k, rfl, hk, fun w0 h0 => h0.uptoD elA18 k hk (k : Int) rfl HRUN.out, hk1, HXS.out, rfl⟩
        · have h3I : ¬ (300 : Int) < (x.s.b.length : Int) := by omega
          have h3 : x.s.b.length ≤ 300 := by omega
          clear h300 hsl hrun
          go_wp2
          go_round
          case rel => exact ⟨k + 1, by go_num, by omega, by omega, fun y hy => by rw [HSN.out] at hy; rcases List.mem_append.1 hy with hy | hy; exact HXS.out y hy; rw [List.mem_singleton.1 hy]; exact h3⟩
          case measure => simp [intOf]; omega
      · have h1I : (150 : Int) ≤ (k : Int) := by omega
        clear h100 hsl
        go_wp2
        go_ret
        exact ⟨_, k, rfl, hk, fun w0 h0 => h0.uptoD elA18 k hk (k : Int) rfl HRUN.out, hk1, HXS.out, rfl⟩
    · obtain rfl : k = l.length := by omega
      have hd0 : ¬ (l.length : Int) < (l.length : Int) := by omega
      clear hlt
      go_wp2
      go_ret
      exact ⟨.slice A l.length cap, l.length, rfl, Nat.le_refl _, fun w0 h0 => by rw [List.take_length]; exact h0, hk1, HXS.out, rfl⟩
end Go.Proofs.Ytbafdfkmakehnaa

namespace Go.Proofs.Ytbafdfkmakehnaa
set_option linter.unusedVariables false
set_option linter.unusedSimpArgs false
open Go.RowKit

/-- Bytes that came in, or are new. -/
structure BOk (w0 w : World) (v : Value) (F : List Nat) : Prop where
  rd : Rd BK w0 v F ∨ Own BK 5 w v F
  len : F.length ≤ 1004
  lt : ∀ y ∈ F, y < 256
theorem BOk.at {w0 w : World} {v : Value} {F : List Nat} (h : BOk w0 w v F) (hk : Kp No w0 w) : Rd BK w v F := h.rd.elim (fun h => h.kpNo hk) (fun h => h.rd)
theorem BOk.keep {w0 w w' : World} {v : Value} {F : List Nat} {S : Nat → Prop} {ts : List TypeId} (h : BOk w0 w v F) (hk : Kp S w w') (hs : Ty w S ts) (ht : 5 ∉ ts) : BOk w0 w' v F := ⟨h.rd.imp id fun h => h.kp hk (hs.notO h ht), h.len, h.lt⟩
theorem BOk.no {w0 w w' : World} {v : Value} {F : List Nat} (h : BOk w0 w v F) (hk : Kp No w w') : BOk w0 w' v F := h.keep hk (Ty.no w) (by simp)

/-- Both robots. -/
structure PlR (w0 : World) (p ph ps pq : Nat) (R : Rob) (w : World) : Prop where
  a : RobA w0 p ph ps R w
  q : QRobS pq R w
  ok : R.ok
  q0 : w0.heap.size ≤ pq
theorem PlR.no {w0 w w' : World} {p ph ps pq : Nat} {R : Rob} (h : PlR w0 p ph ps pq R w) (hk : Kp No w w') : PlR w0 p ph ps pq R w' := ⟨h.a.no hk, h.q.no hk, h.ok, h.q0⟩
/-- First the robot, then the document's. -/
theorem PlR.both {w0 w w1 w2 : World} {p ph ps pq : Nat} {R R' : Rob} (h : PlR w0 p ph ps pq R w) (a : RobA w0 p ph ps R' w1) (hk : Kp (fun k => k = pq) w1 w2) (hq1 : QRobS pq R w1) (q : QRobS pq R' w2) (ok : R'.ok) : PlR w0 p ph ps pq R' w2 :=
  ⟨a.far hk (Ty.one hq1.blk) (by decide) (fun k e => by have e : k = pq := e; rw [e]; exact h.q0), q, ok, h.q0⟩
theorem PlR.qk {w0 w w1 : World} {p ph ps pq : Nat} {R : Rob} (h : PlR w0 p ph ps pq R w) (k : KeepB w w1) : QRobS pq R w1 := let ⟨_, hk, ht⟩ := k; h.q.far hk (ht.not h.q.blk (by decide))

theorem neqAct (k c p : Int) (w : World) : (binOp .neq 32 (.agg #[.int .u8 k, .int .i64 c, .int .i64 p]) (.agg #[.int .u8 k, .int .i64 c, .int .i64 p])).run Try.prog w = .ok (.bool false) w := by
  simp [binOp, Op.equal, Op.maxDepth, go_sem]
theorem qC_heardS (R : Rob) (F : List Nat) : put3 (qC R) 11 (if heardB R.told R.on F then R.told + 1 else R.told) (R.on && !heardB R.told R.on F) [] = qC (heardS R F) := rfl
theorem tkD_len5 (F : List Nat) : (tkD F).length ≤ 100000 := by
  unfold tkD
  split
  · rename_i h
    unfold takeOk tOk at h
    simp only [Bool.and_eq_true, decide_eq_true_eq] at h
    unfold tD
    rw [dataP_len]
    omega
  · simp

set_option maxHeartbeats 4000000 in
set_option maxRecDepth 100000 in
theorem robplays_any {w : World} {v : Value} {l : List A18} (hv : Rd AK18 w v l) (hg : ∀ x ∈ l, x.ok w) (dock charge : Int) (hcb : charge ≤ 9223372036854775807) : Calls Try.prog 4 #[.int .i64 dock, .int .i64 charge, v] w (LawR w) := by
  obtain ⟨A, cap, rfl⟩ := hv.shape
  have H := Lib.hid hv; have HG := Lib.hid hg; have HCB := Lib.hid hcb
  clear hv hg hcb
  go_enter Try.func4, Try.ntmps4
  go_wp2_with fail
  refine (shown18 _).mono ?_
  rintro e w1 ⟨rfl, k1⟩
  have K1 := Lib.hid k1
  clear k1
  go_wp2_with fail
  refine (newA dock charge w1).mono ?_
  rintro e w2 (⟨he, rfl, rfl⟩ | ⟨he, p, ph, ps, rfl, a2⟩)
  · have HE := Lib.hid he
    clear he
    go_wp2_with fail
    refine (newQ_any dock charge w1).mono ?_
    rintro e w3 (⟨_, rfl, rfl⟩ | ⟨h, _⟩)
    · go_wp2
      go_ret
      exact ⟨rfl, K1.out⟩
    · exact absurd (HE.out.symm.trans h) (by decide)
  have HE := Lib.hid he
  have A2 := Lib.hid (a2.low K1.out)
  clear he a2
  go_wp2_with fail
  refine (newQ_any dock charge w2).mono ?_
  rintro e w3 (⟨h, _⟩ | ⟨_, pq, rfl, q3, k3, g3⟩)
  · exact absurd (HE.out.symm.trans h) (by decide)
  have P3 : Hid (PlR w p ph ps pq (newRob dock charge) w3) := Lib.hid ⟨A2.out.no k3, q3, newRob_ok HE.out HCB.out, Nat.le_trans A2.out.kp.size g3⟩
  clear q3 k3 g3
  go_wp2_with fail
  refine (few18_any (H.out.kpNo P3.out.a.kp)).mono ?_
  rintro e w4 ⟨v4, m, rfl, hm, f1, hm1, f2, rfl⟩
  have f1 := f1 w H.out
  obtain ⟨fl, hfl⟩ : ∃ fl, fl = l.take m := ⟨_, rfl⟩
  rw [← hfl] at f1 f2
  obtain ⟨A4, c4, rfl⟩ := f1.shape
  have hfg : ∀ x ∈ fl, x.ok w := fun x hx => HG.out x (by rw [hfl] at hx; exact List.mem_of_mem_take hx)
  have hfl100 : fl.length ≤ 150 := by rw [hfl, List.length_take]; omega
  have HF1 := Lib.hid f1; have HF2 := Lib.hid f2; have HFG := Lib.hid hfg
  clear f1 f2 hfg hfl hm hm1
  go_wp2_with fail
  go_loopg [61] (fl.length + 1) (fun g i wr => ∃ k : Nat, g = fl.length + 1 - k ∧ i = .int .i64 k ∧ k ≤ fl.length ∧ ∃ R, PlR w p ph ps pq R wr)
  case atStart => exact ⟨0, rfl, rfl, by omega, _, P3.out⟩
  case round =>
    obtain ⟨k, hgh, rfl, hk, R, P⟩ := hrel
    have PP := Lib.hid P
    clear P
    by_cases hlt : k < fl.length
    · have hltI : (k : Int) < (fl.length : Int) := by omega
      have hwk : IntKind.i64.wrap ((k : Int) + 1) = (k : Int) + 1 := IntWalk.i64_in _ (by omega)
      obtain ⟨x, hx⟩ : ∃ x, fl[k]? = some x := ⟨_, List.getElem?_eq_getElem hlt⟩
      have hxo := HFG.out x (List.mem_of_getElem? hx)
      have hx3 := HF2.out x (List.mem_of_getElem? hx)
      rcases HF1.out with ⟨_, he⟩ | ⟨g, o, cap', hv, _⟩
      · rw [he] at hlt; simp at hlt
      simp only [Value.slice.injEq] at hv
      obtain ⟨rfl, _, rfl⟩ := hv
      obtain ⟨hc0, hc1, hc2, hc3, hc4, hc5⟩ := (HF1.out.kpNo PP.out.a.kp).act18At hx
      have XO := Lib.hid hxo
      have HX3 := Lib.hid hx3
      obtain ⟨km, hkm⟩ : ∃ km, km = x.k % 6 := ⟨_, rfl⟩
      have kmI : (x.k : Int) % 6 = (km : Int) := by omega
      have hk256 := hxo.2.1
      have hkm6 : km < 6 := by omega
      have HLT := Lib.hid (show k + 1 ≤ fl.length by omega)
      clear hx hxo hx3 hkm hlt
      go_upto_if 70 with fail
      obtain ⟨bx, hbx⟩ : ∃ bx, bx = wr.heap.size := ⟨_, rfl⟩
      obtain ⟨wb, hwb⟩ : ∃ wb, wb = wr.alloc (.cells #[.int .u8 (x.k : Int), .int .u8 (x.xk : Int), .int .i64 x.xc, .int .i64 x.xp, .int .u64 (x.n : Int), .slice x.s.A x.s.b.length x.s.c] 53) := ⟨_, rfl⟩
      have PB := Lib.hid (show PlR w p ph ps pq R wb by rw [hwb]; exact PP.out.no ((Kp.refl No wr).alloc _))
      have BX : Hid (wb.heap[bx]? = some (.cells #[.int .u8 (x.k : Int), .int .u8 (x.xk : Int), .int .i64 x.xc, .int .i64 x.xp, .int .u64 (x.n : Int), .slice x.s.A x.s.b.length x.s.c] 53 (0, 0))) := Lib.hid (by rw [hwb, hbx]; exact blk_new wr _)
      rw [← hwb, ← hbx]
      clear hwb hbx hc0 hc1 hc2 hc3 hc4 hc5
      go_cut [14, 69, 70] (fun b _ _ wx => (∃ F, BOk w wx b F) ∧ Kp No wb wx)
      case first =>
        by_cases h0 : km = 0
        · subst h0
          have hw := done_wrap R.heard
          have q1 : wb.cell? ⟨bx, 1, none⟩ = some (.int .u8 (x.xk : Int)) := (blk_cell BX.out 1).trans rfl
          have q2 : wb.cell? ⟨bx, 2, none⟩ = some (.int .i64 x.xc) := (blk_cell BX.out 2).trans rfl
          have q3 : wb.cell? ⟨bx, 3, none⟩ = some (.int .i64 x.xp) := (blk_cell BX.out 3).trans rfl
          have r10 : wb.cell? ⟨pq, 10, none⟩ = some (.int .u64 (R.heard : Int)) := (blk_cell PB.out.q.blk 10).trans rfl
          go_wp2
          go_still_tail 8, (by kernel_rfl)
          change wpList _ _ _ _ _ wb.drew
          go_wp2_with fail
          refine (packet18_any (nxt R.heard) x.xk x.xc x.xp (nxt_lt _) XO.out.2.2.1 _ _ rfl).mono ?_
          rintro e w5 ⟨v5, rfl, k5⟩
          have B5 : Hid (BOk w w5 v5 (pktA (nxt R.heard) x.xk x.xc x.xp)) := Lib.hid ⟨.inr k5.own, layL_len _ _ _ (nxt_lt _), pktA_lt _ _ _ _⟩
          have K5 := Lib.hid k5.kp.ofDrew
          clear k5
          go_wp2
          go_meet
          exact ⟨⟨_, B5.out⟩, K5.out⟩
        · have h0b : ((km : Int) == 0) = false := by simp; omega
          go_wp2_with fail
          go_meet
          exact ⟨⟨_, ⟨.inl XO.out.1.1, by have := HX3.out; omega, XO.out.1.2⟩⟩, Kp.refl _ _⟩
      case rest =>
        obtain ⟨⟨Fa, Ba⟩, Ka⟩ := hcut
        have BA := Lib.hid Ba; have KA := Lib.hid Ka
        clear Ba Ka
        have q0 : wc.cell? ⟨bx, 0, none⟩ = some (.int .u8 (x.k : Int)) := (blk_cell (KA.out.blk BX.out (no_no _)) 0).trans rfl
        go_upto_if 83 with fail
        obtain ⟨wA, rfl⟩ : ∃ wA : World, wA = wc := ⟨_, rfl⟩
        obtain ⟨b14, rfl⟩ : ∃ b14 : Value, b14 = u14 := ⟨_, rfl⟩
        go_cut [14, 82, 83] (fun b _ _ wx => (∃ F, BOk w wx b F) ∧ Kp No wb wx)
        case first =>
          by_cases h1 : km = 1
          · subst h1
            have q1 : wA.cell? ⟨bx, 1, none⟩ = some (.int .u8 (x.xk : Int)) := (blk_cell (KA.out.blk BX.out (no_no _)) 1).trans rfl
            have q2 : wA.cell? ⟨bx, 2, none⟩ = some (.int .i64 x.xc) := (blk_cell (KA.out.blk BX.out (no_no _)) 2).trans rfl
            have q3 : wA.cell? ⟨bx, 3, none⟩ = some (.int .i64 x.xp) := (blk_cell (KA.out.blk BX.out (no_no _)) 3).trans rfl
            have q4 : wA.cell? ⟨bx, 4, none⟩ = some (.int .u64 (x.n : Int)) := (blk_cell (KA.out.blk BX.out (no_no _)) 4).trans rfl
            go_wp2_with fail
            refine (packet18_any x.n x.xk x.xc x.xp XO.out.2.2.2 XO.out.2.2.1 _ _ rfl).mono ?_
            rintro e w5 ⟨v5, rfl, k5⟩
            have B5 : Hid (BOk w w5 v5 (pktA x.n x.xk x.xc x.xp)) := Lib.hid ⟨.inr k5.own, layL_len _ _ _ XO.out.2.2.2, pktA_lt _ _ _ _⟩
            have K5 := Lib.hid (KA.out.trans k5.kp)
            clear k5
            go_wp2
            go_meet
            exact ⟨⟨_, B5.out⟩, K5.out⟩
          · have h1b : ((km : Int) == 1) = false := by simp; omega
            go_wp2_with fail
            go_meet
            exact ⟨⟨_, BA.out⟩, KA.out⟩
        case rest =>
          obtain ⟨⟨Fb, Bb⟩, Kb⟩ := hcut
          have BB := Lib.hid Bb; have KB := Lib.hid Kb
          clear Bb Kb BA KA q0
          obtain ⟨wB, rfl⟩ : ∃ wB : World, wB = wc := ⟨_, rfl⟩
          obtain ⟨b14b, rfl⟩ : ∃ b14b : Value, b14b = u14 := ⟨_, rfl⟩
          have PB2 := Lib.hid (PB.out.no KB.out)
          go_wp2_with fail
          refine (rpacket_any (PB2.out.q.sq PB2.out.ok)).mono ?_
          rintro e w6 ⟨v6, rfl, k6⟩
          obtain ⟨Q, hQ⟩ : ∃ Q, Q = pktL R.told R.on [] := ⟨_, rfl⟩
          rw [← hQ] at k6
          have HQ := Lib.hid hQ
          clear hQ
          obtain ⟨A6, c6, rfl⟩ := k6.own.rd.shape
          have K6 := Lib.hid k6
          have KB6 := Lib.hid (KB.out.trans k6.kp)
          have BB6 := Lib.hid (BB.out.no k6.kp)
          have PB6 := Lib.hid (PB2.out.no k6.kp)
          have q0 : w6.cell? ⟨bx, 0, none⟩ = some (.int .u8 (x.k : Int)) := (blk_cell (KB6.out.blk BX.out (no_no _)) 0).trans rfl
          clear k6
          obtain ⟨on, hon⟩ : ∃ on, on = R.on := ⟨_, rfl⟩
          have HON := Lib.hid hon
          rw [← hon]
          clear hon
          go_upto_region 17 with fail
          go_cut [98, 99, 100, 101, 102] (fun _ _ _ _ t wx => t = .bool (decide (km = 3) && on) ∧ wx = w6)
          case first =>
            by_cases h3 : km = 3
            · subst h3
              cases on with
              | true =>
                go_wp2_with fail
                go_meet
                exact ⟨rfl, rfl⟩
              | false =>
                go_wp2_with fail
                go_meet
                exact ⟨rfl, rfl⟩
            · have h3b : ((km : Int) == 3) = false := by simp; omega
              go_wp2_with fail
              go_meet
              exact ⟨by rw [decide_eq_false h3]; rfl, rfl⟩
          case rest =>
            obtain ⟨rfl, rfl⟩ := hcut
            go_upto_if 102 with fail
            go_cut [14, 102] (fun b _ wx => (∃ F, BOk w wx b F) ∧ Kp No wb wx)
            case first =>
              as_aux_lemma =>
                cases hd : (decide (km = 3) && on) with
                | false =>
                  go_wp2_with fail
                  go_meet
                  exact ⟨⟨_, BB6.out⟩, KB6.out⟩
                | true =>
                  have hon : on = true := by simp at hd; exact hd.2
                  subst hon
                  have htl := PB.out.ok.on HON.out.symm
                  obtain ⟨n1, hn1⟩ : ∃ n1, n1 = R.told + 1 := ⟨_, rfl⟩
                  have hQ2 : Q = layL false n1 [] := by rw [HQ.out, ← HON.out]; unfold pktL; rw [if_pos rfl, hn1]
                  have LP := laid_p (lay_f_ok n1 [] (by omega) (by simp)) (by omega) (by simp)
                  rw [← hQ2] at LP
                  have LPN := Lib.hid LP.n
                  have hQl : Q.length ≤ 1000000 := by rw [hQ2]; exact Nat.le_trans (layL_len _ _ _ (by omega)) (by decide)
                  have HQX := Lib.hid (show ∀ z ∈ Q, z < 256 by rw [hQ2]; exact layL_lt _ _ _)
                  have hn1l : n1 < 18446744073709551616 := by omega
                  clear hn1 hQ2 LP hd
                  go_wp2_with fail
                  refine (rtake_any K6.out.own.rd hQl HQX.out).mono ?_
                  rintro e w8 ⟨v8, rfl, k8⟩
                  rw [LPN.out]
                  obtain ⟨A8, c8, rfl⟩ := k8.own.rd.shape
                  have K8 := Lib.hid (KB6.out.trans k8.kp)
                  clear k8
                  go_wp2_with fail
                  refine (rlay_any (Rd.nil BK _) true n1 hn1l (by simp)).mono ?_
                  rintro e w9 ⟨v9, rfl, k9⟩
                  have B9 : Hid (BOk w w9 v9 (layL true n1 [])) := Lib.hid ⟨.inr k9.own, layL_len _ _ _ hn1l, layL_lt _ _ _⟩
                  have K9 := Lib.hid ((K8.out.alloc _).trans k9.kp)
                  clear k9
                  go_wp2
                  go_meet
                  exact ⟨⟨_, B9.out⟩, K9.out⟩
            case rest =>
              obtain ⟨⟨Fc, Bc⟩, Kc⟩ := hcut
              have BC := Lib.hid Bc; have KC := Lib.hid Kc
              clear Bc Kc BB BB6 KB PB2 PB6 K6 KB6 q0
              obtain ⟨wC, rfl⟩ : ∃ wC : World, wC = wc := ⟨_, rfl⟩
              obtain ⟨b14c, rfl⟩ : ∃ b14c : Value, b14c = u14 := ⟨_, rfl⟩
              have PC := Lib.hid (PB.out.no KC.out)
              have q0 : wC.cell? ⟨bx, 0, none⟩ = some (.int .u8 (x.k : Int)) := (blk_cell (KC.out.blk BX.out (no_no _)) 0).trans rfl
              have HFl : Fc.length ≤ 1000000 := Nat.le_trans BC.out.len (by decide)
              go_upto_block 2 with fail
              go_cut [19, 117] (fun s _ wx => s = .bool true ∧ ∃ R', PlR w p ph ps pq R' wx)
              case first =>
                have hm6 : km = 0 ∨ km = 1 ∨ km = 2 ∨ km = 3 ∨ km = 4 ∨ km = 5 := by omega
                rcases hm6 with rfl | rfl | rfl | rfl | rfl | rfl
                · as_aux_lemma =>
                    go_wp2
                    go_region_law (first
                      | (go_simp; go_at_call 25; refine (qHear_any Q7.out PC.out.ok (BC7.out.at A7.out.kp) HFl BC.out.lt (tkD_len5 Fc) (tkD_byte Fc)).mono ?_; rintro e w8 ⟨v8, rfl, o8, _, q8, k8⟩; obtain ⟨A8', c8, rfl⟩ := o8.rd.shape; have st8 := o8.rd.str; have st7b := (O7.out.kp k8 ((Ty.one Q7.out.blk).notO O7.out (by decide))).rd.str; have Q8 := Lib.hid q8; have K8 := Lib.hid k8; clear q8 k8 o8)
                      | (go_simp; go_at_call 10; refine (hearA (w := wC.drew) (PC.out.a.no (Kp.refl No wC).drew) PC.out.ok ((BC.out.no (Kp.refl No wC).drew).at (PC.out.a.kp.drew)) HFl BC.out.lt).mono ?_; rintro e w7 ⟨v7, rfl, o7, _, a7, y7⟩; obtain ⟨A7', c7, rfl⟩ := o7.rd.shape; have st7 := o7.rd.str; have O7 := Lib.hid o7; have Q7 := Lib.hid ((PC.out.no (Kp.refl No wC).drew).qk y7); have A7 := Lib.hid a7; have BC7 := Lib.hid ((BC.out.no (Kp.refl No wC).drew).keep y7.choose_spec.1 y7.choose_spec.2 (by decide)); clear a7 y7 o7))
                    all_goals
                      have P8 : Hid (PlR w p ph ps pq (hearS R Fc) w8) := Lib.hid ((PC.out.no (Kp.refl No wC).drew).both A7.out K8.out Q7.out Q8.out (hearS_ok PC.out.ok Fc))
                      go_wp2
                      go_meet
                      exact ⟨rfl, _, P8.out⟩
                · as_aux_lemma =>
                    go_wp2
                    go_region_law (first
                      | (go_simp; go_at_call 25; refine (qHear_any Q7.out PC.out.ok (BC7.out.at A7.out.kp) HFl BC.out.lt (tkD_len5 Fc) (tkD_byte Fc)).mono ?_; rintro e w8 ⟨v8, rfl, o8, _, q8, k8⟩; obtain ⟨A8', c8, rfl⟩ := o8.rd.shape; have st8 := o8.rd.str; have st7b := (O7.out.kp k8 ((Ty.one Q7.out.blk).notO O7.out (by decide))).rd.str; have Q8 := Lib.hid q8; have K8 := Lib.hid k8; clear q8 k8 o8)
                      | (go_simp; go_at_call 10; refine (hearA (w := wC.drew) (PC.out.a.no (Kp.refl No wC).drew) PC.out.ok ((BC.out.no (Kp.refl No wC).drew).at (PC.out.a.kp.drew)) HFl BC.out.lt).mono ?_; rintro e w7 ⟨v7, rfl, o7, _, a7, y7⟩; obtain ⟨A7', c7, rfl⟩ := o7.rd.shape; have st7 := o7.rd.str; have O7 := Lib.hid o7; have Q7 := Lib.hid ((PC.out.no (Kp.refl No wC).drew).qk y7); have A7 := Lib.hid a7; have BC7 := Lib.hid ((BC.out.no (Kp.refl No wC).drew).keep y7.choose_spec.1 y7.choose_spec.2 (by decide)); clear a7 y7 o7))
                    all_goals
                      have P8 : Hid (PlR w p ph ps pq (hearS R Fc) w8) := Lib.hid ((PC.out.no (Kp.refl No wC).drew).both A7.out K8.out Q7.out Q8.out (hearS_ok PC.out.ok Fc))
                      go_wp2
                      go_meet
                      exact ⟨rfl, _, P8.out⟩
                · as_aux_lemma =>
                    go_wp2_with fail
                    refine (stepA PC.out.a PC.out.ok).mono ?_
                    rintro e w7 ⟨rfl, a7, y7⟩
                    have Q7 := Lib.hid (PC.out.qk y7); have A7 := Lib.hid a7
                    clear a7 y7
                    go_wp2_with fail
                    refine (qStep_any Q7.out PC.out.ok).mono ?_
                    rintro e w8 ⟨rfl, q8, k8⟩
                    have P8 := Lib.hid (PC.out.both A7.out k8 Q7.out q8 (stepS_ok PC.out.ok))
                    clear q8 k8
                    go_wp2
                    go_meet
                    exact ⟨rfl, _, P8.out⟩
                · as_aux_lemma =>
                    go_wp2
                    go_region_law (first
                      | (go_simp; go_at_call 24; refine (rshear_any (Q7.out.sq PC.out.ok) (BC7.out.at A7.out.kp) HFl BC.out.lt).mono ?_; rintro e w8 ⟨rfl, k8, s8⟩; have B8 := Lib.hid s8.blk; have K8 := Lib.hid k8; clear s8 k8)
                      | (go_simp; go_at_call 19; refine (heardA (w := wC.drew) (PC.out.a.no (Kp.refl No wC).drew) ((BC.out.no (Kp.refl No wC).drew).at (PC.out.a.kp.drew)) HFl BC.out.lt).mono ?_; rintro e w7 ⟨rfl, a7, y7⟩; have Q7 := Lib.hid ((PC.out.no (Kp.refl No wC).drew).qk y7); have A7 := Lib.hid a7; have BC7 := Lib.hid ((BC.out.no (Kp.refl No wC).drew).keep y7.choose_spec.1 y7.choose_spec.2 (by decide)); clear a7 y7))
                    all_goals
                      have P8 : Hid (PlR w p ph ps pq (heardS R Fc) w8) := Lib.hid ((PC.out.no (Kp.refl No wC).drew).both A7.out K8.out Q7.out ⟨qC_heardS R Fc ▸ B8.out⟩ (heardS_ok PC.out.ok Fc))
                      go_wp2
                      go_meet
                      exact ⟨rfl, _, P8.out⟩
                · as_aux_lemma =>
                    go_wp2
                    go_region_law (first
                      | (go_simp; go_at_call 25; refine (qHear_any Q7.out PC.out.ok (BC7.out.at A7.out.kp) HFl BC.out.lt (tkD_len5 Fc) (tkD_byte Fc)).mono ?_; rintro e w8 ⟨v8, rfl, o8, _, q8, k8⟩; obtain ⟨A8', c8, rfl⟩ := o8.rd.shape; have st8 := o8.rd.str; have st7b := (O7.out.kp k8 ((Ty.one Q7.out.blk).notO O7.out (by decide))).rd.str; have Q8 := Lib.hid q8; have K8 := Lib.hid k8; clear q8 k8 o8)
                      | (go_simp; go_at_call 10; refine (hearA (w := wC.drew) (PC.out.a.no (Kp.refl No wC).drew) PC.out.ok ((BC.out.no (Kp.refl No wC).drew).at (PC.out.a.kp.drew)) HFl BC.out.lt).mono ?_; rintro e w7 ⟨v7, rfl, o7, _, a7, y7⟩; obtain ⟨A7', c7, rfl⟩ := o7.rd.shape; have st7 := o7.rd.str; have O7 := Lib.hid o7; have Q7 := Lib.hid ((PC.out.no (Kp.refl No wC).drew).qk y7); have A7 := Lib.hid a7; have BC7 := Lib.hid ((BC.out.no (Kp.refl No wC).drew).keep y7.choose_spec.1 y7.choose_spec.2 (by decide)); clear a7 y7 o7))
                    all_goals
                      have P8 : Hid (PlR w p ph ps pq (hearS R Fc) w8) := Lib.hid ((PC.out.no (Kp.refl No wC).drew).both A7.out K8.out Q7.out Q8.out (hearS_ok PC.out.ok Fc))
                      go_wp2
                      go_meet
                      exact ⟨rfl, _, P8.out⟩
                · as_aux_lemma =>
                    go_wp2
                    go_region_law (first
                      | (go_simp; go_at_call 24; refine (rshear_any (Q7.out.sq PC.out.ok) (BC7.out.at A7.out.kp) HFl BC.out.lt).mono ?_; rintro e w8 ⟨rfl, k8, s8⟩; have B8 := Lib.hid s8.blk; have K8 := Lib.hid k8; clear s8 k8)
                      | (go_simp; go_at_call 19; refine (heardA (w := wC.drew) (PC.out.a.no (Kp.refl No wC).drew) ((BC.out.no (Kp.refl No wC).drew).at (PC.out.a.kp.drew)) HFl BC.out.lt).mono ?_; rintro e w7 ⟨rfl, a7, y7⟩; have Q7 := Lib.hid ((PC.out.no (Kp.refl No wC).drew).qk y7); have A7 := Lib.hid a7; have BC7 := Lib.hid ((BC.out.no (Kp.refl No wC).drew).keep y7.choose_spec.1 y7.choose_spec.2 (by decide)); clear a7 y7))
                    all_goals
                      have P8 : Hid (PlR w p ph ps pq (heardS R Fc) w8) := Lib.hid ((PC.out.no (Kp.refl No wC).drew).both A7.out K8.out Q7.out ⟨qC_heardS R Fc ▸ B8.out⟩ (heardS_ok PC.out.ok Fc))
                      go_wp2
                      go_meet
                      exact ⟨rfl, _, P8.out⟩
              case rest =>
                as_aux_lemma =>
                  obtain ⟨rfl, R', P'⟩ := hcut
                  have PD := Lib.hid P'
                  clear P' PC BC KC q0 HON HQ PB
                  obtain ⟨wD, rfl⟩ : ∃ wD : World, wD = wc := ⟨_, rfl⟩
                  go_wp2_with fail
                  refine (nextA PD.out.a).mono ?_
                  rintro e w6 ⟨rfl, k6⟩
                  have PE := Lib.hid (PD.out.no k6)
                  clear k6
                  obtain ⟨b20, hb20⟩ : ∃ b20, b20 = w6.heap.size := ⟨_, rfl⟩
                  have X6 : Hid ((w6.alloc (.cells #[.int .u8 (actK R' : Int), .int .i64 (actC R'), .int .i64 (actP R')] 32)).heap[b20]? = some (.cells #[.int .u8 (actK R' : Int), .int .i64 (actC R'), .int .i64 (actP R')] 32 (0, 0))) := Lib.hid (by rw [hb20]; exact blk_new w6 _)
                  have PE2 := Lib.hid (PE.out.no ((Kp.refl No w6).alloc (.cells #[.int .u8 (actK R' : Int), .int .i64 (actC R'), .int .i64 (actP R')] 32)))
                  go_wp2_with fail
                  refine (packetA PE2.out.a).mono ?_
                  rintro e w7 ⟨v7, rfl, k7⟩
                  obtain ⟨Q', hQ'⟩ : ∃ Q', Q' = pktL R'.told R'.on [] := ⟨_, rfl⟩
                  rw [← hQ'] at k7
                  have HQ' := Lib.hid hQ'
                  obtain ⟨A7, c7, rfl⟩ := k7.own.rd.shape
                  have PF := Lib.hid (PE2.out.no k7.kp); have O7 := Lib.hid k7.own; have X7 := Lib.hid (k7.kp.blk X6.out (no_no _))
                  rw [← hb20]
                  clear k7 hQ' hb20
                  go_wp2_with fail
                  refine (rpacket_any (PF.out.q.sq PF.out.ok)).mono ?_
                  rintro e we ⟨v8, rfl, k8⟩
                  rw [← HQ'.out] at k8
                  obtain ⟨A8, c8, rfl⟩ := k8.own.rd.shape
                  have PG := Lib.hid (PF.out.no k8.kp); have OC := Lib.hid (O7.out.kpNo k8.kp); have OD := Lib.hid k8.own; have X8 := Lib.hid (k8.kp.blk X7.out (no_no _))
                  clear k8
                  have ng := fun (w' : World) => neqAct (actK R' : Int) (actC R') (actP R') w'
                  obtain ⟨ac, hac⟩ : ∃ ac, ac = R'.act.isSome := ⟨_, rfl⟩
                  have HAC := Lib.hid hac
                  rw [← hac]
                  clear hac
                  have SALL : Hid (∀ w', Kp No we w' → (w'.cell? ⟨b20, 0, none⟩ = some (.int .u8 (actK R' : Int)) ∧ w'.cell? ⟨b20, 1, none⟩ = some (.int .i64 (actC R')) ∧ w'.cell? ⟨b20, 2, none⟩ = some (.int .i64 (actP R')) ∧ w'.cell? ⟨pq, 4, none⟩ = some (.int .i64 R'.charge) ∧ w'.cell? ⟨pq, 5, none⟩ = some (.bool ac) ∧ w'.cell? ⟨pq, 6, none⟩ = some (.int .u8 (actK R' : Int)) ∧ w'.cell? ⟨pq, 7, none⟩ = some (.int .i64 (actC R')) ∧ w'.cell? ⟨pq, 8, none⟩ = some (.int .i64 (actP R')) ∧ w'.cell? ⟨pq, 9, none⟩ = some (.int .u64 (R'.done : Int)) ∧ (convert 27 9 (.slice A7 Q'.length c7)).run Try.prog w' = .ok (.string (strB Q')) w' ∧ (convert 27 9 (.slice A8 Q'.length c8)).run Try.prog w' = .ok (.string (strB Q')) w')) := Lib.hid fun w' hk => by
                    have b := hk.blk PG.out.q.blk (no_no _)
                    have x := hk.blk X8.out (no_no _)
                    exact ⟨(blk_cell x 0).trans rfl, (blk_cell x 1).trans rfl, (blk_cell x 2).trans rfl, (blk_cell b 4).trans rfl, (blk_cell b 5).trans (by rw [HAC.out]; rfl), (blk_cell b 6).trans rfl, (blk_cell b 7).trans rfl, (blk_cell b 8).trans rfl, (blk_cell b 9).trans rfl, (OC.out.kpNo hk).rd.str, (OD.out.kpNo hk).rd.str⟩
                  have s0 := SALL.out we.drew (Kp.refl No we).drew
                  obtain ⟨s01, s02, s03, s04, s05, s06, s07, s08, s09, s010, s011⟩ := s0
                  go_wp2_with fail
                  go_region_held3 (fun w' => w'.cell? ⟨b20, 0, none⟩ = some (.int .u8 (actK R' : Int)) ∧ w'.cell? ⟨b20, 1, none⟩ = some (.int .i64 (actC R')) ∧ w'.cell? ⟨b20, 2, none⟩ = some (.int .i64 (actP R')) ∧ w'.cell? ⟨pq, 4, none⟩ = some (.int .i64 R'.charge) ∧ w'.cell? ⟨pq, 5, none⟩ = some (.bool ac) ∧ w'.cell? ⟨pq, 6, none⟩ = some (.int .u8 (actK R' : Int)) ∧ w'.cell? ⟨pq, 7, none⟩ = some (.int .i64 (actC R')) ∧ w'.cell? ⟨pq, 8, none⟩ = some (.int .i64 (actP R')) ∧ w'.cell? ⟨pq, 9, none⟩ = some (.int .u64 (R'.done : Int)) ∧ (convert 27 9 (.slice A7 Q'.length c7)).run Try.prog w' = .ok (.string (strB Q')) w' ∧ (convert 27 9 (.slice A8 Q'.length c8)).run Try.prog w' = .ok (.string (strB Q')) w')
                    (first | exact ⟨by assumption, by assumption, by assumption, by assumption, by assumption, by assumption, by assumption, by assumption, by assumption, by assumption, by assumption⟩ | exact ⟨s01, s02, s03, s04, s05, s06, s07, s08, s09, s010, s011⟩)
                    (first
                      | (go_at_call 14; refine (doneA P12.out.a).mono ?_; rintro e wz ⟨rfl, rfl⟩)
                      | (go_at_call 13; refine (chargeA P12.out.a).mono ?_; rintro e wz ⟨rfl, rfl⟩)
                      | (go_at_call 27; refine (sameInts_any (N10.out.own.kpNo N11.out.kp).rd N11.out.own.rd true (by simp)).mono ?_; rintro e w12 ⟨rfl, k12⟩; have P12 := Lib.hid (P11.out.no k12); obtain ⟨t1, t2, t3, t4, t5, t6, t7, t8, t9, t10, t11⟩ := SALL.out w12 (K11.out.trans k12); clear k12)
                      | (go_at_call 28; refine (qCells_any P10.out.q P10.out.ok).mono ?_; rintro e w11 ⟨v11, rfl, n11⟩; obtain ⟨A11, c11, rfl⟩ := n11.own.rd.shape; have P11 := Lib.hid (P10.out.no n11.kp); have K11 := Lib.hid (K10.out.trans n11.kp); have N11 := Lib.hid n11; obtain ⟨t1, t2, t3, t4, t5, t6, t7, t8, t9, t10, t11⟩ := SALL.out w11 K11.out; clear n11)
                      | (go_at_call 15; refine (cellsA (w := we.drew) (PG.out.a.no (Kp.refl No we).drew)).mono ?_; rintro e w10 ⟨v10, rfl, n10⟩; obtain ⟨A10, c10, rfl⟩ := n10.own.rd.shape; have P10 := Lib.hid ((PG.out.no (Kp.refl No we).drew).no n10.kp); have K10 := Lib.hid ((Kp.refl No we).drew.trans n10.kp); have N10 := Lib.hid n10; obtain ⟨t1, t2, t3, t4, t5, t6, t7, t8, t9, t10, t11⟩ := SALL.out w10 K10.out; clear n10))
                  go_wp2
                  go_roundg (fl.length + 1 - (k + 1))
                  case measure => omega
                  case rel => exact ⟨k + 1, rfl, by go_num, HLT.out, _, P12.out⟩
    · obtain rfl : k = fl.length := by omega
      have hd0 : ¬ (fl.length : Int) < (fl.length : Int) := by omega
      clear hlt
      go_wp2
      go_ret
      exact ⟨rfl, PP.out.a.kp⟩
end Go.Proofs.Ytbafdfkmakehnaa

namespace Go.Proofs.Ytbafdfkmakehnaa
set_option linter.unusedVariables false
set_option linter.unusedSimpArgs false
open Go.ChangeShapes Go.WideShapes Go.ChangeAt Go.RowKit Go.Joins
theorem robplays_row {w : World} {v : Value} {l : List A18} (hv : Rd AK18 w v l) (hg : ∀ x ∈ l, x.ok w) (x y : Int) (hx : (Lit.int .i64 x).wf = true) (hy : (Lit.int .i64 y).wf = true) : Calls Try.prog 4 #[.int .i64 x, .int .i64 y, v] w (LawR w) := by
  have b2 := bounds_i64 hy
  exact robplays_any hv hg x y (by omega)
end Go.Proofs.Ytbafdfkmakehnaa
