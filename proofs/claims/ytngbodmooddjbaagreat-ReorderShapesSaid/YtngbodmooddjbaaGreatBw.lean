/-
  Walks: 'Backward' of the package slices at bools.
-/
import Derived.Test.YtngbodmooddjbaaGreatAv
import Derived.RangeFuncNested
import Derived.RangeFuncBound
import Derived.RangeFuncCalls
import Derived.RangeFuncLeaves
import Derived.RangeFuncBox
import Derived.Shelf.Abstract
import Derived.Shelf.RegionOpen
import Derived.WalkKit
import Derived.OwnWalkIn
import Derived.TacticsInMore
import Derived.LoopNIn
import Derived.LoopIn
import Derived.Maps.AppendAt
namespace Go.Proofs.YtngbodmooddjbaaGreat
open Go.RowKit Go.Shelf

attribute [local go_sem] Oper.semAt_some

/-- What has come when k rounds are over. -/
def bkU (zs : List Bool) (k : Nat) : List (Nat × Bool) := (List.range k).map fun j => (zs.length - 1 - j, zs.getD (zs.length - 1 - j) false)
theorem bkU_succ (zs : List Bool) (k : Nat) : bkU zs (k + 1) = bkU zs k ++ [(zs.length - 1 - k, zs.getD (zs.length - 1 - k) false)] := by simp [bkU, List.range_succ]
theorem bkU_length (zs : List Bool) (k : Nat) : (bkU zs k).length = k := by simp [bkU]
theorem bkU_take (zs : List Bool) {k m : Nat} (h : k ≤ m) : bkU zs k <+: bkU zs m := by
  have e : bkU zs k = (bkU zs m).take k := by
    apply List.ext_getElem
    · simp [bkU, h]
    · intro i h1 h2
      simp [bkU]
  rw [e]
  exact List.take_prefix _ _

set_option maxRecDepth 100000 in
set_option maxHeartbeats 2000000 in
theorem backward1_in (F : Fence) (n : Nat) (h7 : F.fn 93) (hro : F.round = none) (hn : 1 ≤ n) (l Bs b cap : Nat) (zs : List Bool) (hreach : zs.length ≤ 10000000000000) (R : World → World → Prop) (hR0 : ∀ A B, R A B → B.cell? ⟨Bs, 0, none⟩ = A.cell? ⟨Bs, 0, none⟩ ∧ ∀ j, B.cell? ⟨b, j, none⟩ = A.cell? ⟨b, j, none⟩) (J Jx : List (Nat × Bool) → World → Prop)
    (hY : ∀ pre (x : Nat × Bool) W, J pre W → pre.length < zs.length → YieldAt F (n - 1) Tryz.prog l #[.int .i64 (x.1 : Int), .bool x.2] W fun e W' =>
      (e = .returned (.bool true) ∧ J (pre ++ [x]) W' ∧ R W W') ∨ (e = .returned (.bool false) ∧ Jx (pre ++ [x]) W'))
    (W : World) (hBs : W.cell? ⟨Bs, 0, none⟩ = some (.slice (some ⟨b, 0, none⟩) zs.length cap)) (hc : ∀ j, j < zs.length → W.cell? ⟨b, j, none⟩ = some (.bool (zs.getD j false))) (h0 : J [] W) :
    CallsIn F n Tryz.prog 93 #[.func (.yield l) #[] #[], .pointer (some ⟨Bs, 0, none⟩)] W fun e W' => (∃ v, e = .returned v) ∧
      (J (bkU zs zs.length) W' ∨ (∃ pre, (∃ k, k ≤ zs.length ∧ pre = bkU zs k) ∧ Jx pre W')) := by
  have hw : IntKind.i64.wrap ((zs.length : Int) - 1) = (zs.length : Int) - 1 := IntWalk.i64_in _ ⟨by omega, by omega⟩
  obtain ⟨len, hlen⟩ : ∃ len, len = zs.length := ⟨_, rfl⟩
  rw [← hlen] at hw hBs hc hreach ⊢
  have HL := Lib.hid hlen
  clear hlen
  refine callsIn_of_wp Tryz.func93 rfl h7 ?_ hro
  simp only [Tryz.ntmps93, List.size_toArray, List.length_cons, List.length_nil, Nat.reduceAdd, Nat.reduceSub, Array.replicate_succ, Array.replicate_zero, List.push_toArray, List.append_toArray, List.nil_append, List.cons_append]
  gi_wp2
  gi_loopw [3] (fun i wr => ∃ k : Nat, k ≤ len ∧ i = .int .i64 ((len : Int) - 1 - (k : Int)) ∧ J (bkU zs k) wr ∧ wr.cell? ⟨Bs, 0, none⟩ = some (.slice (some ⟨b, 0, none⟩) len cap) ∧ ∀ j, j < len → wr.cell? ⟨b, j, none⟩ = some (.bool (zs.getD j false)))
    (fun i _ => (intOf i + 1).toNat)
  case atStart => exact ⟨0, Nat.zero_le _, by simp, h0, hBs, hc⟩
  case round =>
    obtain ⟨k, hk, rfl, hJs, hBs', hcs'⟩ := hrel
    have HCS := Lib.hid hcs'
    have HBS := Lib.hid hBs'
    by_cases hlt : k < len
    · obtain ⟨i, hi⟩ : ∃ i : Nat, (len : Int) - 1 - (k : Int) = (i : Int) := ⟨len - 1 - k, by omega⟩
      have hii : i = zs.length - 1 - k := by have := HL.out; omega
      have hcx : wr.cell? ⟨b, i, none⟩ = some (.bool (zs.getD i false)) := hcs' i (by omega)
      obtain ⟨fn, tmps, assign, body, hy, hR⟩ := hY _ (i, zs.getD i false) wr hJs (by rw [bkU_length]; have := HL.out; omega)
      have hsucc := bkU_succ zs k
      rw [← hii] at hsucc
      have HII := Lib.hid hi
      rw [hi]
      clear hi hii
      generalize zs.getD i false = xb at *
      have hge : (0 : Int) ≤ (i : Int) := by omega
      have hil : (i : Int) < (len : Int) := by have := HII.out; omega
      have hw1 : IntKind.i64.wrap ((i : Int) - 1) = (i : Int) - 1 := IntWalk.i64_in _ ⟨by omega, by omega⟩
      gi_wp2
      refine hR.mono ?_
      rintro e W3 (⟨rfl, hJ3, hk3⟩ | ⟨rfl, hJx3⟩)
      · gi_wp2
        go_roundw
        case rel =>
          exact ⟨k + 1, by omega, by have := HII.out; exact congrArg (Value.int .i64) (by omega), by rw [hsucc]; exact hJ3, (hR0 _ _ hk3).1.trans HBS.out, fun j hj => ((hR0 _ _ hk3).2 j).trans (HCS.out j hj)⟩
        case measure => simp [intOf]
      · gi_wp2
        refine bodyPost_ret (results_none rfl _ _ _) rfl ?_
        exact ⟨⟨_, rfl⟩, .inr ⟨_, ⟨k + 1, by omega, hsucc.symm⟩, hJx3⟩⟩
    · obtain rfl : k = len := by omega
      have hneg : ¬ (0 : Int) ≤ (k : Int) - 1 - (k : Int) := by omega
      gi_wp2
      go_end0
      exact ⟨⟨_, rfl⟩, .inl hJs⟩

set_option maxHeartbeats 1000000 in
/-- 'Backward': the slice is boxed; the function value captures the box. -/
theorem Backward_ok (a : Option Addr) (len cap : Nat) (w : World) :
    Calls Tryz.prog 85 #[.slice a len cap] w fun e w' => e = .returned (.func (.func 93) #[] #[.pointer (some ⟨w.heap.size, 0, none⟩)]) ∧ w' = w.alloc (.cells #[.slice a len cap] 41) := by
  go_enter Tryz.func85, Tryz.ntmps85
  go_wp2_with fail
  go_ret
  exact ⟨rfl, rfl⟩

theorem backward_stops (F : Fence) (n : Nat) (h7 : F.fn 93) (hro : F.round = none) (hn : 1 ≤ n) (Bs b cap : Nat) (zs : List Bool) (hreach : zs.length ≤ 10000000000000) (R : World → World → Prop) (hR0 : ∀ A B, R A B → B.cell? ⟨Bs, 0, none⟩ = A.cell? ⟨Bs, 0, none⟩ ∧ ∀ j, B.cell? ⟨b, j, none⟩ = A.cell? ⟨b, j, none⟩) (w : World) (hBs : Bs < w.heap.size) (hbw : b < w.heap.size)
    (hc : w.cell? ⟨Bs, 0, none⟩ = some (.slice (some ⟨b, 0, none⟩) zs.length cap)) (hcs : ∀ j, j < zs.length → w.cell? ⟨b, j, none⟩ = some (.bool (zs.getD j false))) :
    SeqStopsK F n Tryz.prog 93 #[.pointer (some ⟨Bs, 0, none⟩)] (fun x : Nat × Bool => #[Value.int .i64 (x.1 : Int), Value.bool x.2]) R (fun ys => ys = bkU zs zs.length) (fun pre => pre <+: bkU zs zs.length) zs.length w := fun l J Jx W hW _ _ hY h0 => by
  refine (backward1_in F n h7 hro hn l Bs b cap zs hreach R hR0 J Jx hY W ((hW.cell (p := ⟨Bs, 0, none⟩) hBs).trans hc) (fun j hj => (hW.cell (p := ⟨b, j, none⟩) hbw).trans (hcs j hj)) h0).mono ?_
  rintro e W' ⟨he, hj | ⟨pre, ⟨k, hk, rfl⟩, hj⟩⟩
  · exact ⟨he, .inl ⟨_, rfl, hj⟩⟩
  · exact ⟨he, .inr ⟨_, bkU_take zs hk, hj⟩⟩

end Go.Proofs.YtngbodmooddjbaaGreat
