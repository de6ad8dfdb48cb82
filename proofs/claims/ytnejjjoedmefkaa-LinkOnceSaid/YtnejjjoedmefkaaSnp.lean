/- link.Sender: Packet, Told, Hear. -/
import Derived.Test.YtnejjjoedmefkaaSnd
namespace Go.Proofs.Ytnejjjoedmefkaa
set_option linter.unusedVariables false
set_option linter.unusedSimpArgs false
open Go.RowKit

def pktL (told : Nat) (tells : Bool) (data : List Nat) : List Nat := if tells then layL false (told + 1) data else []
def PacketR (told : Nat) (tells : Bool) (data : List Nat) (w : World) (e : Ending) (w' : World) : Prop := ∃ v', e = .returned (.tuple #[v', .bool tells]) ∧ NewS BK 5 w w' v' (pktL told tells data)

set_option maxRecDepth 100000 in
theorem packet_any {w : World} {p told : Nat} {tells : Bool} {data : List Nat} {V : Value} (h : SndS p told tells data V w) :
    Calls Try.prog 19 #[.pointer (some ⟨p, 0, none⟩)] w (PacketR told tells data w) := by
  obtain ⟨c0, c1, c2, f0, f1, f2⟩ := h.cells
  obtain ⟨A, cap, rfl⟩ := h.own.rd.shape
  have H := Lib.hid h
  cases tells
  · clear h
    go_enter Try.func19, Try.ntmps19
    go_wp2
    go_ret2
    exact ⟨.slice none 0 0, rfl, NewS.nil _ _ _⟩
  · have hb := (h.ok rfl).1
    obtain ⟨n, hn⟩ : ∃ n, n = told + 1 := ⟨_, rfl⟩
    have e1 : (told : Int) + 1 = (n : Int) := by omega
    have e2 : IntKind.u64.wrap (n : Int) = (n : Int) := IntWalk.u64_in _ (by omega)
    have hn2 : n < 18446744073709551616 := by omega
    have HN := Lib.hid hn; have HN2 := Lib.hid hn2
    clear h hn hb hn2
    go_enter Try.func19, Try.ntmps19
    go_wp2
    go_region_law (go_simp; go_at_call 11; refine (lay_any (w := w.drew) H.out.own.rd false n HN2.out H.out.byt).mono ?_; rintro e w2 ⟨v2, rfl, k2⟩; obtain ⟨A2, cp2, rfl⟩ := k2.own.rd.shape; have K2 := Lib.hid k2; clear k2)
    all_goals
      go_wp2
      go_ret2
      exact ⟨.slice A2 (layL false n data).length cp2, rfl, by unfold pktL; rw [if_pos rfl, ← HN.out]; exact ⟨K2.out.own, K2.out.ge, K2.out.kp.ofDrew⟩⟩

set_option maxRecDepth 100000 in
theorem told_any {w : World} {p told : Nat} {tells : Bool} {data : List Nat} {V : Value} (h : SndS p told tells data V w) :
    Calls Try.prog 27 #[.pointer (some ⟨p, 0, none⟩)] w fun e w' => e = .returned (.int .u64 (told : Int)) ∧ w = w' := by
  obtain ⟨c0, c1, c2, f0, f1, f2⟩ := h.cells
  clear h
  go_enter Try.func27, Try.ntmps27
  go_wp2
  go_ret
  exact ⟨rfl, rfl⟩

theorem bnot_t {d : Bool} (h : true = !d) : d = false := by cases d <;> simp_all
theorem bnot_f {d : Bool} (h : false = !d) : d = true := by cases d <;> simp_all
/-- Is the thing heard by these bytes? -/
def heardB (told : Nat) (tells : Bool) (f : List Nat) : Bool := tells && takeOk f && tkH f && decide (tkN f = told + 1)
def SHearR (p told : Nat) (tells : Bool) (data : List Nat) (V : Value) (f : List Nat) (w : World) (e : Ending) (w' : World) : Prop :=
  e = .returned (.bool (heardB told tells f)) ∧ Kp (fun k => k = p) w w' ∧
    SndS p (if heardB told tells f then told + 1 else told) (tells && !heardB told tells f) (if heardB told tells f then [] else data) (if heardB told tells f then .slice none 0 0 else V) w'
theorem takeOk_E (f : List Nat) : (tkE f != 0) = !takeOk f := by unfold tkE; cases takeOk f <;> rfl
theorem tkN_lt (f : List Nat) : tkN f < 18446744073709551615 := by
  unfold tkN
  split
  · exact (tC_int _).2
  · decide

set_option maxHeartbeats 400000 in
set_option maxRecDepth 100000 in
theorem shear_any {w : World} {p told : Nat} {tells : Bool} {data : List Nat} {V v : Value} {f : List Nat} (h : SndS p told tells data V w) (hv : Rd BK w v f) (hl : f.length ≤ 1000000) (hx : ∀ x ∈ f, x < 256) :
    Calls Try.prog 23 #[.pointer (some ⟨p, 0, none⟩), v] w (SHearR p told tells data V f w) := by
  obtain ⟨A, cap, rfl⟩ := hv.shape
  have hpl := lt_of_block h.blk
  have hbig := h.big
  have H := Lib.hid h; have HV := Lib.hid hv; have HX := Lib.hid hx
  obtain ⟨hB, hhB⟩ : ∃ hB, hB = heardB told tells f := ⟨_, rfl⟩
  obtain ⟨m, hm⟩ : ∃ m, m = tkN f := ⟨_, rfl⟩
  obtain ⟨b, hb⟩ : ∃ b, b = tkH f := ⟨_, rfl⟩
  obtain ⟨ok, hok⟩ : ∃ ok, ok = takeOk f := ⟨_, rfl⟩
  obtain ⟨er, her⟩ : ∃ er, er = tkE f := ⟨_, rfl⟩
  have h1 : (er != 0) = !ok := by rw [her, hok]; exact takeOk_E f
  have h2 : hB = (tells && ok && b && decide (m = told + 1)) := by rw [hhB]; unfold heardB; rw [← hm, ← hb, ← hok]
  have hml : m < 18446744073709551615 := by rw [hm]; exact tkN_lt f
  obtain ⟨n, hn⟩ : ∃ n, n = told + 1 := ⟨_, rfl⟩
  have e1 : (told : Int) + 1 = (n : Int) := by omega
  have e2 : tells = true → IntKind.u64.wrap (n : Int) = (n : Int) := fun e => IntWalk.u64_in _ (by have := (h.ok e).1; omega)
  obtain ⟨ne, hne⟩ : ∃ ne, ne = ((m : Int) != (n : Int)) := ⟨_, rfl⟩
  have h3 : ne = !decide (m = told + 1) := by
    rw [hne, ← hn]
    by_cases hq : m = n
    · simp [hq]
    · have : (m : Int) ≠ (n : Int) := by omega
      simp [hq, this]
  have hneI := hne.symm
  have HM := Lib.hid hm; have HB := Lib.hid hb; have HER := Lib.hid her; have HHB := Lib.hid hhB
  have no : hB = false → ∀ w', Kp No w w' → SHearR p told tells data V f w (.returned (.bool false)) w' := by
    intro e w' hk
    refine ⟨by rw [← hhB, e], hk.mono fun _ _ e => e.elim, ?_⟩
    rw [← hhB, e]; simp only [Bool.not_false, Bool.and_true]; exact h.no hk
  have HNO := Lib.hid no
  have H2 := Lib.hid h2; have H3 := Lib.hid h3; have HN := Lib.hid hn; have HML := Lib.hid hml; have HBG := Lib.hid hbig
  clear h hv hx hm hb her hhB no h2 h3 hne hn hml hok
  have hcase : (tells = false) ∨ (tells = true ∧ ok = false) ∨ (tells = true ∧ ok = true ∧ b = false) ∨ (tells = true ∧ ok = true ∧ b = true ∧ ne = true) ∨ (tells = true ∧ ok = true ∧ b = true ∧ ne = false) := by
    cases tells <;> cases ok <;> cases b <;> cases ne <;> simp
  rcases hcase with rfl | ⟨rfl, rfl⟩ | ⟨rfl, rfl, rfl⟩ | ⟨rfl, rfl, rfl, rfl⟩ | ⟨rfl, rfl, rfl, rfl⟩
  all_goals
    try (replace e2 := e2 rfl)
    go_enter Try.func23, Try.ntmps23
    go_wp2_with fail
    refine (take_any HV.out hl HX.out).mono ?_
    rintro e w1 ⟨v1, rfl, k1⟩
    rw [← HM.out, ← HB.out, ← HER.out]
    obtain ⟨A1, cp1, rfl⟩ := k1.own.rd.shape
    have s1 := H.out.no k1.kp
    obtain ⟨c0, c1, c2, f0, f1, f2⟩ := s1.cells
    have K1 := Lib.hid k1; have S1 := Lib.hid s1
    have hpl1 : p < w1.heap.size := lt_of_block s1.blk
    clear k1 s1
    go_wp2
    go_quiet (fail)
    go_wp2
    first
      | (go_ret; exact HNO.out (by rw [H2.out]; rfl) _ ((K1.out.kp.alloc _).drewN _))
      | (go_ret; exact HNO.out (by rw [H2.out]; simp only [Bool.true_and]; exact bnot_t H3.out) _ ((K1.out.kp.alloc _).drewN _))
      | (go_ret
         have hB1 : hB = true := by rw [H2.out]; simp only [Bool.true_and]; exact bnot_f H3.out
         have hh : heardB told true f = true := by rw [← HHB.out]; exact hB1
         have hk := ((Kp.one (w := (w1.alloc (.cells #[.bool true, .int .u64 (m : Int), .slice A1 (tkD f).length cp1] 25)).drewN nq) (p := p) 1 (.bool false)).trans (Kp.one (p := p) 2 (.slice none 0 0))).trans (Kp.one (p := p) 0 (.int .u64 (n : Int)))
         have kk := ((K1.out.kp.alloc (.cells #[.bool true, .int .u64 (m : Int), .slice A1 (tkD f).length cp1] 25)).drewN nq)
         have bk := (blk_set (blk_set (blk_set (kk.blk H.out.blk (no_no _)) 1 (.bool false)) 2 (.slice none 0 0)) 0 (.int .u64 (n : Int))).trans rfl
         refine ⟨by rw [hh]; rfl, (kk.mono (S2 := fun k => k = p) fun _ _ e => e.elim).trans hk, ?_⟩
         rw [hh, if_pos rfl, if_pos rfl, if_pos rfl, ← HN.out]
         exact ⟨bk, Own.nil _ _ _, by simp [Value.ownBlock], by have := (H.out.ok rfl).1; have := HN.out; omega, fun e => by simp at e, fun x hx => by simp at hx⟩)
end Go.Proofs.Ytnejjjoedmefkaa
