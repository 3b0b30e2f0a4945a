/-
  Walks: 'awake' and 'Pick' of the package netverifylaw26.
-/
import Derived.Test.YtgglkldoclejaaaDoorW10
import Derived.Test.YtgglkldoclejaaaDoorFam
namespace Go.Proofs.YtgglkldoclejaaaDoor
open Go.RowKit

/-- A manager of the call's own. -/
structure Own (w0 : World) (p : Nat) (w : World) (M : Mgr) (L : Lay) : Prop where
  rep : Rep w p M L
  kp : Kp No w0 w
  own : ∀ x, L.at p x → w0.heap.size ≤ x
theorem Own.no {w0 w w' : World} {p : Nat} {M : Mgr} {L : Lay} (s : Own w0 p w M L) (h : Kp No w w') : Own w0 p w' M L := ⟨s.rep.no h, s.kp.trans_no h, s.own⟩
theorem Own.step {w0 w w' : World} {p : Nat} {M M' : Mgr} {L : Lay} {v : Value} {e : Ending} (s : Own w0 p w M L) (h : Ret p L w M' v e w') : e = .returned v ∧ ∃ L', Own w0 p w' M' L' := by
  obtain ⟨L', he, r, k, f⟩ := h
  refine ⟨he, L', r, s.kp.trans (A' := L.at p) (fun x hx => .inr (s.own x hx)) k, fun x hx => ?_⟩
  rcases f x hx with h1 | h1
  · exact s.own x h1
  · have := s.kp.size; omega
theorem Own.start {w w' : World} {p n : Nat} {L : Lay} (R : Rep w' p (Mgr.new n) L) (k : Kp No w w') (o : ∀ x, L.at p x → w.heap.size ≤ x) : Own w p w' (Mgr.new n) L := ⟨R, k, o⟩

structure Awk (a1 a2 a3 a4 a5 a6 : Mgr × Int) : Prop where
  e1 : a1 = (Mgr.new 3).varM 0
  e2 : a2 = a1.1.varM 2
  e3 : a3 = a2.1.andM a1.2 a2.2
  e4 : a4 = a3.1.notM a3.2
  e5 : a5 = a4.1.notM a4.2
  e6 : a6 = a5.1.varM 3
  b1 : a1.1.nodes.length ≤ big
  b2 : a2.1.nodes.length ≤ big
  b3 : a3.1.nodes.length ≤ big
  b4 : a4.1.nodes.length ≤ big
  b5 : a5.1.nodes.length ≤ big
  b6 : a6.1.nodes.length ≤ big
  f1 : a3.1.evalM a3.2 [true, false, true] = true
  f2 : a3.1.evalM a3.2 [true, true] = false
  f3 : a3.1.sizeM a3.2 = 2
  f4 : a5.2 = a3.2
  f5 : a6.2 = -1
  f6 : a6.1.valid a3.2 = true

theorem awk : ∃ a1 a2 a3 a4 a5 a6, Awk a1 a2 a3 a4 a5 a6 :=
  ⟨_, _, _, _, _, _, ⟨rfl, rfl, rfl, rfl, rfl, rfl, by decide +kernel, by decide +kernel, by decide +kernel, by decide +kernel, by decide +kernel, by decide +kernel,
    by decide +kernel, by decide +kernel, by decide +kernel, by decide +kernel, by decide +kernel, by decide +kernel⟩⟩

theorem bools_new (w : World) (l : List Bool) (hl : l.length ≤ maxLen) : Bools (w.alloc (.cells (l.map Value.bool).toArray 4)) (.slice (some ⟨w.heap.size, 0, none⟩) l.length l.length) l :=
  ⟨_, _, rfl, hl, .inr ⟨w.heap.size, 0, rfl, fun i b hi => by
    have h := heap_alloc_new w (.cells (l.map Value.bool).toArray 4)
    rw [Nat.zero_add, cell_of_row _ _ _ _ _ _ h]
    simp [hi]⟩⟩

/-- 'Pick'. -/
def pick (x : Int) (n : Nat) : Nat := (x % 18446744073709551616).toNat % n

theorem pick_lt (x : Int) {n : Nat} (h : 0 < n) : pick x n < n := Nat.mod_lt _ h

set_option maxRecDepth 100000 in
set_option maxHeartbeats 400000 in
theorem Pick_ok (x : Int) (n : Nat) (w : World) (h0 : 0 < n) (h1 : n ≤ 9223372036854775807) :
    Calls Tryd.prog 26 #[.int .i64 x, .int .i64 (n : Int)] w fun e w' => e = .returned (.int .i64 (pick x n : Int)) ∧ w = w' := by
  go_enter Tryd.func26, Tryd.ntmps26
  go_wp2
  go_ret
  have hu : IntKind.u64.wrap x = x % 18446744073709551616 := by simp [IntKind.wrap, IntKind.bits, IntKind.signed]
  have h2 : (0 : Int) ≤ x % 18446744073709551616 := Int.emod_nonneg _ (by omega)
  have h3 : (IntKind.u64.wrap x).tmod (n : Int) = (pick x n : Int) := by
    rw [hu, Int.tmod_eq_emod_of_nonneg h2]
    unfold pick
    rw [Int.natCast_emod, Int.toNat_of_nonneg h2]
  have h4 := pick_lt x h0
  refine ⟨?_, rfl⟩
  show Ending.returned (.int .i64 (wrap64 ((IntKind.u64.wrap x).tmod (n : Int)))) = _
  rw [h3, IntWalk.wrap64_in _ ⟨by omega, by omega⟩]

end Go.Proofs.YtgglkldoclejaaaDoor
