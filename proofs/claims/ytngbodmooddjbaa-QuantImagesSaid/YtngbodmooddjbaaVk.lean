/-
  Walks: 'Compare' of the package cmp at ints; the closure of 'Count' that compares levels.
-/
import Derived.Test.YtngbodmooddjbaaTab
import Derived.Test.YtngbodmooddjbaaQ
import Derived.RangeFuncNested
import Derived.RangeFuncBound
import Derived.RangeFuncCalls
import Derived.RangeFuncLeaves
import Derived.RangeFuncBox
import Derived.Shelf.Abstract
import Derived.Shelf.RegionOpen
import Derived.WalkKit
import Derived.OwnWalkIn
import Derived.TacticsInMore
import Derived.LoopNIn
import Derived.LoopIn
import Derived.Maps.AppendAt
import Derived.Lib.Small
import Derived.Deep.RegionHeld3
namespace Go.Proofs.Ytngbodmooddjbaa
open Go.RowKit Go.Shelf

attribute [local go_sem] Oper.semAt_some

def upto (f : Nat → Int) (k : Nat) : List Int := (List.range k).map f
theorem upto_succ (f : Nat → Int) (k : Nat) : upto f (k + 1) = upto f k ++ [f k] := by simp [upto, List.range_succ]
theorem upto_length (f : Nat → Int) (k : Nat) : (upto f k).length = k := by simp [upto]
theorem upto_all (zs : List Int) : upto (fun j => zs[j]?.getD 0) zs.length = zs := by
  apply List.ext_getElem
  · simp [upto]
  · intro i h1 h2
    simp [upto, h2]
theorem upto_take (zs : List Int) {k : Nat} (hk : k ≤ zs.length) : upto (fun j => zs[j]?.getD 0) k = zs.take k := by
  apply List.ext_getElem
  · simp [upto, hk]
  · intro i h1 h2
    have : i < zs.length := by simp [upto] at h1; omega
    simp [upto, this]

set_option maxRecDepth 100000 in
set_option maxHeartbeats 2000000 in
theorem values1_in (F : Fence) (n : Nat) (h7 : F.fn 119) (hro : F.round = none) (hn : 1 ≤ n) (l Bs n₀ b off len cap : Nat) (zs : List Int) (hreach : len * 8 ≤ 140737488351232) (hb : b < n₀) (J Jx : List Int → World → Prop)
    (hY : ∀ pre x W, J pre W → pre.length < len → YieldAt F (n - 1) Try.prog l #[.int .i64 x] W fun e W' =>
      (e = .returned (.bool true) ∧ J (pre ++ [x]) W' ∧ Below n₀ W W') ∨ (e = .returned (.bool false) ∧ Jx (pre ++ [x]) W'))
    (W : World) (hBs : W.cell? ⟨Bs, 0, none⟩ = some (.slice (some ⟨b, off, none⟩) len cap)) (hc : ∀ j, j < len → W.cell? ⟨b, off + j, none⟩ = some (.int .i64 (zs[j]?.getD 0))) (h0 : J [] W) :
    CallsIn F n Try.prog 119 #[.func (.yield l) #[] #[], .pointer (some ⟨Bs, 0, none⟩)] W fun e W' => (∃ v, e = .returned v) ∧
      ((∃ ys, ys = upto (fun j => zs[j]?.getD 0) len ∧ J ys W') ∨ (∃ pre, (∃ k, k ≤ len ∧ pre = upto (fun j => zs[j]?.getD 0) k) ∧ Jx pre W')) := by
  refine callsIn_of_wp Try.func119 rfl h7 ?_ hro
  simp only [Try.ntmps119, List.size_toArray, List.length_cons, List.length_nil, Nat.reduceAdd, Nat.reduceSub, Array.replicate_succ, Array.replicate_zero, List.push_toArray, List.append_toArray, List.nil_append, List.cons_append]
  gi_wp2
  gi_loopw [7] (fun i wr => ∃ k : Nat, k ≤ len ∧ i = .int .i64 k ∧ J (upto (fun j => zs[j]?.getD 0) k) wr ∧ Below n₀ W wr)
    (fun i _ => len - (intOf i).toNat)
  case atStart => exact ⟨0, Nat.zero_le _, rfl, h0, Below.refl _ _⟩
  case round =>
    obtain ⟨k, hk, rfl, hJs, hnx⟩ := hrel
    have hcx : k < len → wr.cell? ⟨b, off + k, none⟩ = some (.int .i64 (zs[k]?.getD 0)) := fun h => (hnx.cell (p := ⟨b, off + k, none⟩) hb).trans (hc k h)
    by_cases hlt : k < len
    · obtain ⟨fn, tmps, assign, body, hy, hR⟩ := hY _ (zs[k]?.getD 0) wr hJs (by rw [upto_length]; exact hlt)
      have hcx' := hcx hlt
      gi_wp2
      refine hR.mono ?_
      rintro e W3 (⟨rfl, hJ3, hk3⟩ | ⟨rfl, hJx3⟩)
      · gi_wp2
        go_roundw
        case rel => exact ⟨k + 1, by omega, by simp, by rw [upto_succ]; exact hJ3, hnx.trans hk3⟩
        case measure => simp [intOf]; omega
      · gi_wp2
        refine bodyPost_ret (results_none rfl _ _ _) rfl ?_
        exact ⟨⟨_, rfl⟩, .inr ⟨_, ⟨k + 1, by omega, (upto_succ _ _).symm⟩, hJx3⟩⟩
    · obtain rfl : k = len := by omega
      gi_wp2
      go_end0
      exact ⟨⟨_, rfl⟩, .inl ⟨_, rfl, hJs⟩⟩

set_option maxRecDepth 100000 in
set_option maxHeartbeats 1000000 in
theorem values1_zero_in (F : Fence) (n : Nat) (h7 : F.fn 119) (hro : F.round = none) (l Bs c : Nat) (ao : Option Addr) (J : List Int → World → Prop) (W : World) (hBs : W.cell? ⟨Bs, 0, none⟩ = some (.slice ao 0 c)) (h0 : J [] W) :
    CallsIn F n Try.prog 119 #[.func (.yield l) #[] #[], .pointer (some ⟨Bs, 0, none⟩)] W fun e W' => (∃ v, e = .returned v) ∧ J [] W' := by
  refine callsIn_of_wp Try.func119 rfl h7 ?_ hro
  simp only [Try.ntmps119, List.size_toArray, List.length_cons, List.length_nil, Nat.reduceAdd, Nat.reduceSub, Array.replicate_succ, Array.replicate_zero, List.push_toArray, List.append_toArray, List.nil_append, List.cons_append]
  gi_wp2
  gi_loopw [7] (fun i wr => i = .int .i64 0 ∧ J [] wr) (fun _ _ => 0)
  case atStart => exact ⟨rfl, h0⟩
  case round =>
    obtain ⟨rfl, hJs⟩ := hrel
    gi_wp2
    go_end0
    exact ⟨⟨_, rfl⟩, hJs⟩

set_option maxHeartbeats 1000000 in
/-- 'Values': the slice is boxed; the function value captures the box. -/
theorem Values_ok (a : Option Addr) (len cap : Nat) (w : World) :
    Calls Try.prog 96 #[.slice a len cap] w fun e w' => e = .returned (.func (.func 119) #[] #[.pointer (some ⟨w.heap.size, 0, none⟩)]) ∧ w' = w.alloc (.cells #[.slice a len cap] 33) := by
  go_enter Try.func96, Try.ntmps96
  go_wp2_with fail
  go_ret
  exact ⟨rfl, rfl⟩

/-- What 'Values' hands back, as an iterator. -/
theorem values_stops (F : Fence) (n : Nat) (h7 : F.fn 119) (hro : F.round = none) (hn : 1 ≤ n) (Bs n₀ : Nat) (sv : Value) (zs : List Int) (hreach : zs.length * 8 ≤ 140737488351232) (w : World) (hBs : Bs < w.heap.size) (hn₀ : n₀ ≤ w.heap.size)
    (hc : w.cell? ⟨Bs, 0, none⟩ = some sv) (hI : ∃ ao cap, sv = .slice ao zs.length cap ∧ (zs.length = 0 ∨ ∃ b off, ao = some ⟨b, off, none⟩ ∧ b < n₀ ∧ ∀ j, j < zs.length → w.cell? ⟨b, off + j, none⟩ = some (.int .i64 (zs[j]?.getD 0)))) :
    SeqStopsK F n Try.prog 119 #[.pointer (some ⟨Bs, 0, none⟩)] (fun x : Int => #[Value.int .i64 x]) (Below n₀) (fun ys => ys = zs) (fun pre => pre <+: zs) zs.length w := fun l J Jx W hW _ _ hY h0 => by
  have hc' := (hW.cell (p := ⟨Bs, 0, none⟩) hBs).trans hc
  obtain ⟨ao, cap, rfl, hz | ⟨b, off, rfl, hb, hcs⟩⟩ := hI
  · have : zs = [] := List.eq_nil_of_length_eq_zero hz
    subst this
    exact (values1_zero_in F n h7 hro l Bs cap ao J W hc' h0).mono fun e W' ⟨he, hj⟩ => ⟨he, .inl ⟨_, rfl, hj⟩⟩
  · refine (values1_in F n h7 hro hn l Bs n₀ b off zs.length cap zs hreach hb J Jx hY W hc' (fun j hj => (hW.cell (p := ⟨b, off + j, none⟩) (by show b < w.heap.size; omega)).trans (hcs j hj)) h0).mono ?_
    rintro e W' ⟨he, ⟨ys, rfl, hj⟩ | ⟨pre, ⟨k, hk, rfl⟩, hj⟩⟩
    · exact ⟨he, .inl ⟨_, upto_all zs, hj⟩⟩
    · exact ⟨he, .inr ⟨_, by rw [upto_take zs hk]; exact List.take_prefix _ _, hj⟩⟩

set_option maxRecDepth 100000 in
set_option maxHeartbeats 2000000 in
/-- 'AppendSeq' behind nothing. -/
theorem appendSeq_in (F : Fence) (n : Nat) (h3 : F.fn 135) (h7 : F.fn 119) (hro : F.round = none) (hn : 3 ≤ n) (Bs : Nat) (sv : Value) (zs : List Int) (hlen : zs.length ≤ maxLen) (hbytes : zs.length * 8 ≤ 140737488351232) (w : World) (hBs : Bs < w.heap.size)
    (hc : w.cell? ⟨Bs, 0, none⟩ = some sv) (hI : ∃ ao cap, sv = .slice ao zs.length cap ∧ (zs.length = 0 ∨ ∃ b off, ao = some ⟨b, off, none⟩ ∧ b < w.heap.size ∧ ∀ j, j < zs.length → w.cell? ⟨b, off + j, none⟩ = some (.int .i64 (zs[j]?.getD 0)))) :
    CallsIn F n Try.prog 135 #[.slice none 0 0, .func (.func 119) #[] #[.pointer (some ⟨Bs, 0, none⟩)]] w fun e W' => ∃ v, e = .returned v ∧ W'.ownsRow w.heap.size 3 1 v zs.length (zs.map (Value.int .i64)) ∧ Below w.heap.size w W' := by
  have h1 : 1 ≤ n := by omega
  obtain ⟨i0, hi, hz0, hz1, hz2⟩ := info_parts info_int
  refine callsIn_of_wp_marks Try.func135 rfl h3 ?_ hro
  simp only [Try.ntmps135, List.size_toArray, List.length_cons, List.length_nil, Nat.reduceAdd, Nat.reduceSub, Array.replicate_succ, Array.replicate_zero, List.push_toArray, List.append_toArray, List.nil_append, List.cons_append]
  gi_wp2
  have bO := Boxed.new w 33 (.slice none 0 0)
  have hB0 : Below w.heap.size w (w.alloc (.cells #[.slice none 0 0] 33)) := (Below.refl _ w).alloc (Nat.le_refl _) _
  have hst := values_stops F (n - 1) h7 hro (by omega) Bs w.heap.size sv zs hbytes (w.alloc (.cells #[.slice none 0 0] 33)) (by simp; omega) (by simp) ((hB0.cell (p := ⟨Bs, 0, none⟩) hBs).trans hc) (by
    obtain ⟨ao, cap, e, h⟩ := hI
    refine ⟨ao, cap, e, h.imp id ?_⟩
    rintro ⟨b, off, e2, hb, hcs⟩
    exact ⟨b, off, e2, hb, fun j hj => (hB0.cell (p := ⟨b, off + j, none⟩) hb).trans (hcs j hj)⟩)
  refine wpIn_rangeFunc_ownF hro h1 (gf := 119) (lb := #[.pointer (some ⟨Bs, 0, none⟩)]) rfl h7 (enters_of Try.func119 (by kernel_rfl) rfl)
    hst belowK_t (belowK_b (by simp)) (Below.refl _ _) (fun _ => rfl)
    (fun pre W => (∃ v, Boxed W w.heap.size 33 v ∧ W.ownsRow w.heap.size 3 1 v pre.length (pre.map (Value.int .i64)) ∧ True) ∧ Below w.heap.size w W)
    (fun _ _ _ => False)
    (OwnFrom.and (Own.from (holdsRow_own w.heap.size w.heap.size 33 3 1 (fun (pre : List Int) => pre.length) (fun (pre : List Int) => pre.map (Value.int .i64)) (fun _ _ => True)) _) (ownFrom_below (Nat.le_refl _) (by simp)))
    (fun _ _ _ _ _ hs _ _ => hs)
    ⟨⟨_, bO, World.ownsRow_nil _ _ _ _, trivial⟩, hB0⟩
    (fun x => { tmps := #[.slice none 0 0, .func (.func 119) #[] #[.pointer (some ⟨Bs, 0, none⟩)], .pointer (some ⟨w.heap.size, 0, none⟩), undef, .slice none 0 0, .int .i64 x, .func (.func 119) #[] #[.pointer (some ⟨Bs, 0, none⟩)], .int .i64 x, undef, undef, undef, undef, undef], defers := [] }) ?assign ?body ?done ?stop
  case assign =>
    intro l x W K hK
    gi_wp2
    exact hK
  case body =>
    rintro l pre x W ⟨⟨v, hv, hrow, _⟩, hB⟩ hlt
    have hc := hv.cell
    gi_wp2_with (gi_at_builtin; refine wpListIn_append_own _ rfl _ _ 33 rfl w.heap.size 3 i0 (.int .i64 0) 1 8 Try.underlying33 hi hz0 hz1 hz2 rfl (by decide) _ _ _ rfl (hrow.alloc _) ⟨W.heap.size, 0, none⟩ 1 1 [.int .i64 x] rfl rfl (cell_one_new _ _ _) (by simp [Value.oneCell']) (by omega) (by omega) (by have := hB.size; simp; omega) ?_; intro v' w1 hown' hgrow _; obtain ⟨g', cap', rfl⟩ := ownsRow_succ hown'; obtain ⟨hv1, hv2, hr2, hk2, hb2⟩ := hv.appended (by decide) hrow hB.size (Nat.le_refl _) hown' hgrow; have hc1 := hv1.cell; have hf1 := hv1.frozen)
    exact ⟨hk2, hb2, ⟨_, hv2, by simpa using hr2, trivial⟩, hB.trans hb2⟩
  case done =>
    rintro D ys W hD rfl ⟨⟨v, hv, hrow, _⟩, hB⟩ hK
    have hc := hv.cell
    gi_wp2
    refine ⟨by simp, .inl ⟨_, _, rfl, run_takeDeferred hK, ?_⟩⟩
    exact ⟨_, results_tmp rfl _ _ _, v, rfl, ownsRow_putObj hrow _ hK rfl, hB.trans (belowK_b (w := w) (Nat.le_refl _) W D _ _ (by simp at hD; omega) hK rfl rfl)⟩
  case stop =>
    rintro D c pre W _ _ h _
    exact h.elim

set_option maxHeartbeats 1000000 in
/-- 'Collect' of 'Values'. -/
theorem Collect_ok (Bs : Nat) (sv : Value) (zs : List Int) (hlen : zs.length ≤ maxLen) (hbytes : zs.length * 8 ≤ 140737488351232) (w : World) (hBs : Bs < w.heap.size)
    (hc : w.cell? ⟨Bs, 0, none⟩ = some sv) (hI : SrcAt w sv 1 zs.length (zs.map (Value.int .i64))) :
    Calls Try.prog 117 #[.func (.func 119) #[] #[.pointer (some ⟨Bs, 0, none⟩)]] w fun e W' => ∃ v, e = .returned v ∧ W'.ownsRow w.heap.size 3 1 v zs.length (zs.map (Value.int .i64)) ∧ Kp No w W' := by
  have AS := Lib.hid (callsIn_wide.1 (appendSeq_in Fence.wide 3 trivial trivial rfl (by omega) Bs sv zs hlen hbytes w hBs hc (by
    obtain ⟨ao, c, hv, hl, h⟩ := hI
    refine ⟨ao, c, hv, h.imp id ?_⟩
    rintro ⟨g, o, e, hg, hcs⟩
    exact ⟨g, o, e, hg, fun j hj => hcs j _ (by rw [List.getElem?_map, List.getElem?_eq_getElem hj]; simp)⟩)))
  clear hI hc
  go_enter Try.func117, Try.ntmps117
  go_wp2_with fail
  refine AS.out.mono ?_
  rintro e W' ⟨v, rfl, row, bl⟩
  have RET := Lib.hid (show ∃ v', Ending.returned v = .returned v' ∧ W'.ownsRow w.heap.size 3 1 v' zs.length (zs.map (Value.int .i64)) ∧ Kp No w W' from ⟨v, rfl, row, ⟨bl.os, bl.tape, bl.output, bl.size, fun k hk _ => bl.block k hk⟩⟩)
  clear row bl AS
  go_wp2_with fail
  go_ret
  exact RET.out

end Go.Proofs.Ytngbodmooddjbaa

namespace Go.Proofs.Ytngbodmooddjbaa
open Go.RowKit Go.Lib

set_option maxRecDepth 100000 in
theorem isNaN_ok (x : Int) (w : World) : Calls Try.prog 120 #[.int .i64 x] w fun e w' => e = .returned (.bool false) ∧ w = w' := by
  go_enter Try.func120, Try.ntmps120
  go_wp2_with fail
  go_ret
  exact ⟨rfl, rfl⟩

set_option maxRecDepth 100000 in
theorem Compare_ok (x y : Int) (w : World) : Calls Try.prog 98 #[.int .i64 x, .int .i64 y] w fun e w' => e = .returned (.int .i64 (compareInt x y)) ∧ w = w' := by
  have N1 := Lib.hid (fun (z : Int) => isNaN_ok z w)
  unfold compareInt
  by_cases h : x < y
  · rw [if_pos h]
    go_enter Try.func98, Try.ntmps98
    go_wp2_with fail
    refine (N1.out x).mono ?_
    rintro e w' ⟨rfl, rfl⟩
    go_wp2_with fail
    refine (N1.out y).mono ?_
    rintro e w' ⟨rfl, rfl⟩
    go_wp2_with fail
    go_ret
    exact ⟨rfl, rfl⟩
  · rw [if_neg h]
    by_cases h2 : x > y
    · rw [if_pos h2]
      have h3 : y < x := h2
      go_enter Try.func98, Try.ntmps98
      go_wp2_with fail
      refine (N1.out x).mono ?_
      rintro e w' ⟨rfl, rfl⟩
      go_wp2_with fail
      refine (N1.out y).mono ?_
      rintro e w' ⟨rfl, rfl⟩
      go_wp2_with fail
      go_ret
      exact ⟨rfl, rfl⟩
    · rw [if_neg h2]
      have h3 : ¬ y < x := h2
      go_enter Try.func98, Try.ntmps98
      go_wp2_with fail
      refine (N1.out x).mono ?_
      rintro e w' ⟨rfl, rfl⟩
      go_wp2_with fail
      refine (N1.out y).mono ?_
      rintro e w' ⟨rfl, rfl⟩
      go_wp2_with fail
      go_ret
      exact ⟨rfl, rfl⟩

set_option maxRecDepth 100000 in
set_option maxHeartbeats 1000000 in
/-- The closure: the levels of two variables, compared. -/
theorem levCmp_ok (bx gl n c : Nat) (lev : Nat → Nat) (x y : Nat) (hx : x < n) (hy : y < n) {w : World} (hb : w.cell? ⟨bx, 0, none⟩ = some (.slice (some ⟨gl, 0, none⟩) n c)) (hl : ∀ v, v < n → w.cell? ⟨gl, v, none⟩ = some (.int .i64 (lev v : Int))) :
    Calls Try.prog 97 #[.int .i64 (x : Int), .int .i64 (y : Int), .pointer (some ⟨bx, 0, none⟩)] w fun e w' => e = .returned (.int .i64 (compareInt (lev x : Int) (lev y : Int))) ∧ ∃ q, w' = w.drewN q := by
  have cx := hl x hx
  have cy := hl y hy
  have CM := Lib.hid (fun (z : World) => Compare_ok (lev x : Int) (lev y : Int) z)
  have hxi : (x : Int) < (n : Int) := by omega
  have hyi : (y : Int) < (n : Int) := by omega
  generalize compareInt (lev x : Int) (lev y : Int) = r at *
  generalize lev x = lx at *
  generalize lev y = ly at *
  have S0 : Hid (w.drew.cell? ⟨bx, 0, none⟩ = some (.slice (some ⟨gl, 0, none⟩) n c) ∧ w.drew.cell? ⟨gl, x, none⟩ = some (.int .i64 (lx : Int)) ∧ w.drew.cell? ⟨gl, y, none⟩ = some (.int .i64 (ly : Int))) := Lib.hid ⟨hb, cx, cy⟩
  clear hl hb cx cy
  go_enter Try.func97, Try.ntmps97
  go_upto_region 1 with fail
  go_region_held3 (fun z => z.cell? ⟨bx, 0, none⟩ = some (.slice (some ⟨gl, 0, none⟩) n c) ∧ z.cell? ⟨gl, x, none⟩ = some (.int .i64 (lx : Int)) ∧ z.cell? ⟨gl, y, none⟩ = some (.int .i64 (ly : Int))) (first | exact S0.out) (first | (go_at_call 98; (with_reducible refine (CM.out _).mono ?_); rintro e w1 ⟨rfl, rfl⟩))
  all_goals
    go_wp2_with fail
    go_ret
    exact ⟨rfl, 1, rfl⟩

end Go.Proofs.Ytngbodmooddjbaa
