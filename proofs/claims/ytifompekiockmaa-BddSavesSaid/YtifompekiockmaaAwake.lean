/-
  Walks: 'awake' and 'Pick' of the package netverifylaw26.
-/
import Derived.Test.YtifompekiockmaaW10
import Derived.Test.YtifompekiockmaaFam
namespace Go.Proofs.Ytifompekiockmaa
open Go.RowKit

/-- A manager of the call's own. -/
structure Own (w0 : World) (p : Nat) (w : World) (M : Mgr) (L : Lay) : Prop where
  rep : Rep w p M L
  kp : Kp No w0 w
  own : ∀ x, L.at p x → w0.heap.size ≤ x
theorem Own.no {w0 w w' : World} {p : Nat} {M : Mgr} {L : Lay} (s : Own w0 p w M L) (h : Kp No w w') : Own w0 p w' M L := ⟨s.rep.no h, s.kp.trans_no h, s.own⟩
theorem Own.step {w0 w w' : World} {p : Nat} {M M' : Mgr} {L : Lay} {v : Value} {e : Ending} (s : Own w0 p w M L) (h : Ret p L w M' v e w') : e = .returned v ∧ ∃ L', Own w0 p w' M' L' := by
  obtain ⟨L', he, r, k, f⟩ := h
  refine ⟨he, L', r, s.kp.trans (A' := L.at p) (fun x hx => .inr (s.own x hx)) k, fun x hx => ?_⟩
  rcases f x hx with h1 | h1
  · exact s.own x h1
  · have := s.kp.size; omega
theorem Own.start {w w' : World} {p n : Nat} {L : Lay} (R : Rep w' p (Mgr.new n) L) (k : Kp No w w') (o : ∀ x, L.at p x → w.heap.size ≤ x) : Own w p w' (Mgr.new n) L := ⟨R, k, o⟩

structure Awk (a1 a2 a3 a4 a5 a6 : Mgr × Int) : Prop where
  e1 : a1 = (Mgr.new 3).varM 0
  e2 : a2 = a1.1.varM 2
  e3 : a3 = a2.1.andM a1.2 a2.2
  e4 : a4 = a3.1.notM a3.2
  e5 : a5 = a4.1.notM a4.2
  e6 : a6 = a5.1.varM 3
  b1 : a1.1.nodes.length ≤ big
  b2 : a2.1.nodes.length ≤ big
  b3 : a3.1.nodes.length ≤ big
  b4 : a4.1.nodes.length ≤ big
  b5 : a5.1.nodes.length ≤ big
  b6 : a6.1.nodes.length ≤ big
  f1 : a3.1.evalM a3.2 [true, false, true] = true
  f2 : a3.1.evalM a3.2 [true, true] = false
  f3 : a3.1.sizeM a3.2 = 2
  f4 : a5.2 = a3.2
  f5 : a6.2 = -1
  f6 : a6.1.valid a3.2 = true

theorem awk : ∃ a1 a2 a3 a4 a5 a6, Awk a1 a2 a3 a4 a5 a6 :=
  ⟨_, _, _, _, _, _, ⟨rfl, rfl, rfl, rfl, rfl, rfl, by decide +kernel, by decide +kernel, by decide +kernel, by decide +kernel, by decide +kernel, by decide +kernel,
    by decide +kernel, by decide +kernel, by decide +kernel, by decide +kernel, by decide +kernel, by decide +kernel⟩⟩

theorem bools_new (w : World) (l : List Bool) (hl : l.length ≤ maxLen) : Bools (w.alloc (.cells (l.map Value.bool).toArray 4)) (.slice (some ⟨w.heap.size, 0, none⟩) l.length l.length) l :=
  ⟨_, _, rfl, hl, .inr ⟨w.heap.size, 0, rfl, fun i b hi => by
    have h := heap_alloc_new w (.cells (l.map Value.bool).toArray 4)
    rw [Nat.zero_add, cell_of_row _ _ _ _ _ _ h]
    simp [hi]⟩⟩

set_option maxRecDepth 100000 in
set_option maxHeartbeats 1000000 in
theorem awake_ok (w : World) : Calls Try.prog 16 #[] w fun e w' => e = .returned (.bool true) ∧ Kp No w w' := by
  obtain ⟨a1, a2, a3, a4, a5, a6, A⟩ := awk
  have HA := Lib.hid A
  have hnew := New_ok 3 w
  rw [show nvars 3 = 3 from rfl] at hnew
  have HN := Lib.hid hnew
  clear A hnew
  go_enter Try.func16, Try.ntmps16
  go_wp2_with fail
  refine HN.out.mono ?_
  rintro e w1 ⟨p, L1, rfl, R1, k1, o1⟩
  have s1 : Own w p w1 (Mgr.new 3) L1 := ⟨R1, k1, o1⟩
  clear R1 k1 o1 HN
  go_wp2_with fail
  refine (Var_ok 0 s1.rep (by rw [← HA.out.e1]; exact HA.out.b1)).mono ?_
  intro e w2 h2
  rw [← HA.out.e1] at h2
  obtain ⟨rfl, L2, s2⟩ := s1.step h2
  clear h2 s1
  go_wp2_with fail
  refine (Var_ok 2 s2.rep (by rw [← HA.out.e2]; exact HA.out.b2)).mono ?_
  intro e w3 h3
  rw [← HA.out.e2] at h3
  obtain ⟨rfl, L3, s3⟩ := s2.step h3
  clear h3 s2
  go_wp2_with fail
  refine (And_ok _ _ s3.rep (by rw [← HA.out.e3]; exact HA.out.b3)).mono ?_
  intro e w4 h4
  rw [← HA.out.e3] at h4
  obtain ⟨rfl, L4, s4⟩ := s3.step h4
  clear h4 s3
  go_wp2_with fail
  refine (Eval_ok a3.2 (l := [true, false, true]) (s4.rep.no (Kp.alloc _)) (bools_new w4 [true, false, true] (by simp [maxLen_val]))).mono ?_
  rw [HA.out.f1]
  rintro e w5 ⟨rfl, k5⟩
  have s5 := s4.no ((Kp.alloc _).trans_no k5)
  clear k5 s4
  go_wp2_with fail
  refine (Eval_ok a3.2 (l := [true, true]) (s5.rep.no (Kp.alloc _)) (bools_new w5 [true, true] (by simp [maxLen_val]))).mono ?_
  rw [HA.out.f2]
  rintro e w6 ⟨rfl, k6⟩
  have s6 := s5.no ((Kp.alloc _).trans_no k6)
  clear k6 s5
  go_wp2_with fail
  refine (Size_ok a3.2 s6.rep).mono ?_
  rw [HA.out.f3]
  rintro e w7 ⟨rfl, k7⟩
  have s7 := s6.no k7
  clear k7 s6
  go_wp2_with fail
  refine (Not_ok _ s7.rep (by rw [← HA.out.e4]; exact HA.out.b4)).mono ?_
  intro e w8 h8
  rw [← HA.out.e4] at h8
  obtain ⟨rfl, L8, s8⟩ := s7.step h8
  clear h8 s7
  go_wp2_with fail
  refine (Not_ok _ s8.rep (by rw [← HA.out.e5]; exact HA.out.b5)).mono ?_
  intro e w9 h9
  rw [← HA.out.e5] at h9
  obtain ⟨rfl, L9, s9⟩ := s8.step h9
  clear h9 s8
  rw [HA.out.f4]
  go_wp2_with fail
  refine (Var_ok 3 s9.rep (by rw [← HA.out.e6]; exact HA.out.b6)).mono ?_
  intro e w10 h10
  rw [← HA.out.e6] at h10
  obtain ⟨rfl, L10, s10⟩ := s9.step h10
  clear h10 s9
  rw [HA.out.f5]
  go_wp2_with fail
  refine (valid_as _ true s10.rep HA.out.f6).mono ?_
  rintro e w' ⟨rfl, rfl⟩
  go_wp2_with fail
  go_ret
  exact ⟨rfl, s10.kp⟩

/-- 'Pick'. -/
def pick (x : Int) (n : Nat) : Nat := (x % 18446744073709551616).toNat % n

theorem pick_lt (x : Int) {n : Nat} (h : 0 < n) : pick x n < n := Nat.mod_lt _ h

set_option maxRecDepth 100000 in
set_option maxHeartbeats 400000 in
theorem Pick_ok (x : Int) (n : Nat) (w : World) (h0 : 0 < n) (h1 : n ≤ 9223372036854775807) :
    Calls Try.prog 17 #[.int .i64 x, .int .i64 (n : Int)] w fun e w' => e = .returned (.int .i64 (pick x n : Int)) ∧ w = w' := by
  go_enter Try.func17, Try.ntmps17
  go_wp2
  go_ret
  have hu : IntKind.u64.wrap x = x % 18446744073709551616 := by simp [IntKind.wrap, IntKind.bits, IntKind.signed]
  have h2 : (0 : Int) ≤ x % 18446744073709551616 := Int.emod_nonneg _ (by omega)
  have h3 : (IntKind.u64.wrap x).tmod (n : Int) = (pick x n : Int) := by
    rw [hu, Int.tmod_eq_emod_of_nonneg h2]
    unfold pick
    rw [Int.natCast_emod, Int.toNat_of_nonneg h2]
  have h4 := pick_lt x h0
  refine ⟨?_, rfl⟩
  show Ending.returned (.int .i64 (wrap64 ((IntKind.u64.wrap x).tmod (n : Int)))) = _
  rw [h3, IntWalk.wrap64_in _ ⟨by omega, by omega⟩]

end Go.Proofs.Ytifompekiockmaa
