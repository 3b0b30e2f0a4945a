/-
  Walks: 'Swap' of the package reorder.
-/
import Derived.Test.YtngbodmooddjbaaSw
import Derived.Deep.CutBlock
import Derived.Deep.QuietTactic
import Derived.BigQuiet
namespace Go.Proofs.Ytngbodmooddjbaa
open Go.RowKit

set_option maxRecDepth 100000 in
set_option maxHeartbeats 4000000 in
theorem Swap_ok {p : Nat} {M : Mgr} {L : Lay} {w : World} (k : Nat) (R : Rep w p M L) (hn : M.n ≤ 256) (hk : k + 1 < M.n) (hb : (visF M).length * 3 ^ M.n + M.n + 2 ≤ big) (hm : M.nodes.length ≤ 500000000000) :
    Calls Try.prog 34 #[ptr p, .int .i64 (k : Int)] w fun e w' => e = .returned (.bool true) ∧ ArS w p M L (swO M.order k) w' := by
  have VS := Lib.hid (vars_ok R)
  unfold natV at VS
  have OS := Lib.hid (Order_ok R hn)
  have hlen : M.order.length = M.n := rfl
  have hki : (k : Int) < (M.n : Int) - 1 := by omega
  have RR := Lib.hid R
  have ARR : Hid (∀ (w2 : World) (g cap : Nat), Kp No w w2 → w2.ownsRow 0 3 1 (.slice (some ⟨g, 0, none⟩) M.order.length cap) M.order.length ((swO M.order k).map natV) →
      Calls Try.prog 79 #[ptr p, .slice (some ⟨g, 0, none⟩) M.order.length cap] w2 (ArPost w2 p M L (swO M.order k))) := Lib.hid (fun w2 g cap k2 h2 =>
    Arrange_ok (RR.out.no k2) (RR.out.wf.perm.sw (by omega)) (swO_len _ _) hn (by have := SrcAt.of_row h2; rw [swO_len]; exact this) hb hm)
  clear R hb hm
  have HKN := Lib.hid hk
  clear hk
  go_enter Try.func34, Try.ntmps34
  go_wp2_with (go_at_call 57; refine VS.out.mono ?_; rintro e w' ⟨rfl, rfl⟩)
  refine OS.out.mono ?_
  rintro e w1 ⟨ov, rfl, orow, k1⟩
  have hpos : k + 1 < M.order.length := HKN.out
  obtain ⟨g, cap, rfl, hc1, hc2, _, hcl, hzl⟩ := ownsRow_open (row_zero orow) (by omega)
  have d0 := hcl k (natV (M.order.getD k 0)) (natsAt_get (by omega))
  have d1 := hcl (k + 1) (natV (M.order.getD (k + 1) 0)) (natsAt_get hpos)
  have z0 := hzl k
  have z1 := hzl (k + 1)
  have glt := World.block_lt_of_cell? _ _ d0
  have OROW := Lib.hid orow
  have KK1 := Lib.hid k1
  have hcap : M.order.length ≤ 256 := hn
  unfold natV at d0 d1
  clear orow k1 hcl hzl OS VS
  generalize hA : M.order.getD k 0 = a at *
  generalize hB : M.order.getD (k + 1) 0 = b at *
  have HA := Lib.hid hA
  have HBB := Lib.hid hB
  clear hA hB
  go_upto_region 4 with fail
  have KS : ∀ (X : World) (i : Nat) (u : Value), Kp (fun z => z = g) X (X.setCell ⟨g, i, none⟩ u) := fun X i u => (Kp.setCell _ _).mono (fun _ _ e => e)
  have K2 : Hid (Kp No w ((w1.setCell ⟨g, k, none⟩ (.int .i64 (b : Int))).setCell ⟨g, k + 1, none⟩ (.int .i64 (a : Int))).drew) := Lib.hid
    ((KK1.out.trans (A := No) (A' := fun z => z = g) (fun z e => .inr (by rw [e]; exact (OROW.out.lt g rfl).1)) ((KS w1 k (.int .i64 (b : Int))).trans (A' := fun z => z = g) (fun _ e => .inl e) (KS _ (k + 1) (.int .i64 (a : Int))))).trans_no Kp.drew)
  have R2 : Hid (((w1.setCell ⟨g, k, none⟩ (.int .i64 (b : Int))).setCell ⟨g, k + 1, none⟩ (.int .i64 (a : Int))).drew.ownsRow 0 3 1 (.slice (some ⟨g, 0, none⟩) M.order.length cap) M.order.length ((swO M.order k).map natV)) := Lib.hid (by
    have h := ownsRow_store (ownsRow_store (row_zero OROW.out) k (.int .i64 (b : Int))) (k + 1) (.int .i64 (a : Int))
    have e : (swO M.order k).map natV = ((M.order.map natV).set k (.int .i64 (b : Int))).set (k + 1) (.int .i64 (a : Int)) := by
      unfold swO
      rw [HA.out, HBB.out, List.map_set, List.map_set]; rfl
    rw [e]
    exact h)
  have AC := Lib.hid (ARR.out _ g cap K2.out R2.out)
  clear KS R2
  go_region
  clear d0 d1 z0 z1 glt
  generalize ((w1.setCell ⟨g, k, none⟩ (.int .i64 (b : Int))).setCell ⟨g, k + 1, none⟩ (.int .i64 (a : Int))).drew = w3 at *
  go_wp2_with fail
  refine AC.out.mono ?_
  intro e w4 h4
  obtain ⟨rfl, h5⟩ := h4
  have h6 : ArS w3 p M L (swO M.order k) w4 := h5
  have RET := Lib.hid (h6.from K2.out)
  clear h5 h6
  go_wp2_with fail
  go_ret
  exact ⟨rfl, RET.out⟩

end Go.Proofs.Ytngbodmooddjbaa
