/-
  Walks: 'Ints' of the package netverifykeep, for any two lists.
-/
import Derived.Test.YtngbodmooddjbaaSave
import Derived.Deep.QuietTactic
import Derived.BigQuiet
namespace Go.Proofs.Ytngbodmooddjbaa
open Go.RowKit

/-- A cell of a slice. -/
theorem SrcAt.cellAt {w : World} {v : Value} {size n : Nat} {xs : List Value} (h : SrcAt w v size n xs) (hn : 0 < n) : ∃ g o c, v = .slice (some ⟨g, o, none⟩) n c ∧ g < w.heap.size ∧ ∀ (j : Nat) (u : Value), xs[j]? = some u → w.cell? ⟨g, o + j, none⟩ = some u := by
  obtain ⟨ao, c, rfl, hl, h⟩ := h
  rcases h with h | ⟨g, o, rfl, hg, h⟩
  · omega
  · exact ⟨g, o, c, rfl, hg, h⟩
theorem SrcAt.form {w : World} {v : Value} {size n : Nat} {xs : List Value} (h : SrcAt w v size n xs) : ∃ ao c, v = .slice ao n c := by
  obtain ⟨ao, c, hv, _⟩ := h
  exact ⟨ao, c, hv⟩

def CmpR (w : World) (N gk : Nat) (s5 : Value) (wr : World) : Prop := ∃ k m, k + gk = N ∧ s5 = .int .i64 (k : Int) ∧ wr = w.drewN m

set_option maxRecDepth 100000 in
set_option maxHeartbeats 1000000 in
theorem Ints_eq {a b : Value} {l : List Int} {w : World} (ha : SrcAt w a 1 l.length (l.map intV)) (hb : SrcAt w b 1 l.length (l.map intV)) (hl : l.length ≤ 1000000) :
    Calls Try.prog 36 #[a, b] w fun e w' => e = .returned (.bool true) ∧ ∃ m, w' = w.drewN m := by
  have HA := Lib.hid ha
  have HB := Lib.hid hb
  obtain ⟨aa, ca, rfl⟩ := ha.form
  obtain ⟨ab, cb, rfl⟩ := hb.form
  clear ha hb
  have hli : (l.length : Int) ≤ 1000000 := by omega
  go_enter Try.func36, Try.ntmps36
  go_wp2
  go_loopg [5] l.length (fun gk s5 wr => CmpR w l.length gk s5 wr)
  case atStart => exact ⟨0, 0, by omega, rfl, rfl⟩
  case round =>
    obtain ⟨k, m, hk, rfl, hw⟩ := hrel
    have HW := Lib.hid hw
    by_cases hlt : k < l.length
    · obtain ⟨g1, o1, c1, hv1, _, hc1⟩ := (HA.out.no (Kp.drewN m)).cellAt (by omega)
      obtain ⟨g2, o2, c2, hv2, _, hc2⟩ := (HB.out.no (Kp.drewN m)).cellAt (by omega)
      cases hv1
      cases hv2
      have f1 : wr.cell? ⟨g1, o1 + k, none⟩ = some (.int .i64 l[k]) := by rw [hw]; exact hc1 k _ (by simp [intV, hlt])
      have f2 : wr.cell? ⟨g2, o2 + k, none⟩ = some (.int .i64 l[k]) := by rw [hw]; exact hc2 k _ (by simp [intV, hlt])
      have hlti : (k : Int) < l.length := by omega
      have HK := Lib.hid hk
      clear hk hw hc1 hc2
      generalize l[k] = x at *
      go_wp2
      go_quiet (fail)
      go_wp2
      go_roundg (l.length - (k + 1))
      case measure => have := HK.out; omega
      case rel => exact ⟨k + 1, _, by omega, by go_num, by rw [HW.out, World.drewN_drewN]⟩
    · obtain rfl : k = l.length := by omega
      have hge : ¬ (l.length : Int) < l.length := by omega
      clear hk hw
      go_wp2
      go_ret
      exact ⟨rfl, m, HW.out⟩

theorem flat_get {N : List Nd} {k : Nat} (h : k < N.length) : (N.flatMap ndCells)[k * 3]? = some (.int .i64 (N.getD k (0, 0, 0)).1) ∧ (N.flatMap ndCells)[k * 3 + 1]? = some (.int .i64 ((N.getD k (0, 0, 0)).2.1 : Int)) ∧ (N.flatMap ndCells)[k * 3 + 2]? = some (.int .i64 ((N.getD k (0, 0, 0)).2.2 : Int)) := by
  have hg : N[k]? = some (N.getD k (0, 0, 0)) := by simp [h]
  exact ⟨ndCells_get N k 0 _ hg (by omega), ndCells_get N k 1 _ hg (by omega), ndCells_get N k 2 _ hg (by omega)⟩

set_option maxRecDepth 100000 in
set_option maxHeartbeats 1000000 in
theorem Nodes_eq {a b : Value} {l : List Nd} {w : World} (ha : SrcAt w a 3 l.length (l.flatMap ndCells)) (hb : SrcAt w b 3 l.length (l.flatMap ndCells)) (hl : l.length ≤ 1000000000) :
    Calls Try.prog 35 #[a, b] w fun e w' => e = .returned (.bool true) ∧ ∃ m, w' = w.drewN m := by
  have HA := Lib.hid ha
  have HB := Lib.hid hb
  obtain ⟨aa, ca, rfl⟩ := ha.form
  obtain ⟨ab, cb, rfl⟩ := hb.form
  clear ha hb
  have hli : (l.length : Int) ≤ 1000000000 := by omega
  go_enter Try.func35, Try.ntmps35
  go_wp2
  go_loopg [5] l.length (fun gk s5 wr => CmpR w l.length gk s5 wr)
  case atStart => exact ⟨0, 0, by omega, rfl, rfl⟩
  case round =>
    obtain ⟨k, m, hk, rfl, hw⟩ := hrel
    have HW := Lib.hid hw
    by_cases hlt : k < l.length
    · obtain ⟨g1, o1, c1, hv1, _, hc1⟩ := (HA.out.no (Kp.drewN m)).cellAt (by omega)
      obtain ⟨g2, o2, c2, hv2, _, hc2⟩ := (HB.out.no (Kp.drewN m)).cellAt (by omega)
      cases hv1
      cases hv2
      obtain ⟨e0, e1, e2⟩ := flat_get hlt
      have f0 : wr.cell? ⟨g1, o1 + k * 3, none⟩ = some (.int .i64 (l.getD k (0, 0, 0)).1) := by rw [hw]; exact hc1 _ _ e0
      have f1 : wr.cell? ⟨g1, o1 + k * 3 + 1, none⟩ = some (.int .i64 ((l.getD k (0, 0, 0)).2.1 : Int)) := by rw [hw]; exact hc1 _ _ e1
      have f2 : wr.cell? ⟨g1, o1 + k * 3 + 2, none⟩ = some (.int .i64 ((l.getD k (0, 0, 0)).2.2 : Int)) := by rw [hw]; exact hc1 _ _ e2
      have f3 : wr.cell? ⟨g2, o2 + k * 3, none⟩ = some (.int .i64 (l.getD k (0, 0, 0)).1) := by rw [hw]; exact hc2 _ _ e0
      have f4 : wr.cell? ⟨g2, o2 + k * 3 + 1, none⟩ = some (.int .i64 ((l.getD k (0, 0, 0)).2.1 : Int)) := by rw [hw]; exact hc2 _ _ e1
      have f5 : wr.cell? ⟨g2, o2 + k * 3 + 2, none⟩ = some (.int .i64 ((l.getD k (0, 0, 0)).2.2 : Int)) := by rw [hw]; exact hc2 _ _ e2
      have hlti : (k : Int) < l.length := by omega
      have HK := Lib.hid hk
      clear hk hw hc1 hc2 e0 e1 e2
      generalize l.getD k (0, 0, 0) = x at *
      go_wp2
      go_quiet (fail)
      go_wp2
      go_roundg (l.length - (k + 1))
      case measure => have := HK.out; omega
      case rel => exact ⟨k + 1, _, by omega, by go_num, by rw [HW.out, World.drewN_drewN]⟩
    · obtain rfl : k = l.length := by omega
      have hge : ¬ (l.length : Int) < l.length := by omega
      clear hk hw
      go_wp2
      go_ret
      exact ⟨rfl, m, HW.out⟩

end Go.Proofs.Ytngbodmooddjbaa

namespace Go.Proofs.Ytngbodmooddjbaa
open Go.RowKit

def CmpL (w : World) (l1 l2 : List Int) (gk : Nat) (s5 : Value) (wr : World) : Prop := ∃ k m, k + gk = l1.length ∧ s5 = .int .i64 (k : Int) ∧ wr = w.drewN m ∧ ∀ i, i < k → l1[i]? = l2[i]?

set_option maxRecDepth 100000 in
set_option maxHeartbeats 1000000 in
theorem Ints_ok {a b : Value} {l1 l2 : List Int} {w : World} (ha : SrcAt w a 1 l1.length (l1.map intV)) (hb : SrcAt w b 1 l2.length (l2.map intV)) (hl : l1.length ≤ 1000000) :
    Calls Try.prog 36 #[a, b] w fun e w' => e = .returned (.bool (decide (l1 = l2))) ∧ ∃ m, w' = w.drewN m := by
  have HA := Lib.hid ha
  have HB := Lib.hid hb
  obtain ⟨aa, ca, rfl⟩ := ha.form
  obtain ⟨ab, cb, rfl⟩ := hb.form
  clear ha hb
  have hli : (l1.length : Int) ≤ 1000000 := by omega
  obtain ⟨r, hr⟩ : ∃ r, decide (l1 = l2) = r := ⟨_, rfl⟩
  rw [hr]
  have HR := Lib.hid hr
  clear hr
  by_cases hne : l1.length = l2.length
  case neg =>
    obtain rfl : r = false := by rw [← HR.out]; exact decide_eq_false (fun e => hne (by rw [e]))
    have hn2 : ((l1.length : Int) == (l2.length : Int)) = false := by simp; omega
    have hn3 : ((l1.length : Int) != (l2.length : Int)) = true := by simp; omega
    go_enter Try.func36, Try.ntmps36
    go_wp2_with fail
    go_ret
    exact ⟨rfl, 0, rfl⟩
  have J0 : Hid (CmpL w l1 l2 l1.length (.int .i64 0) w) := Lib.hid ⟨0, 0, by omega, rfl, rfl, fun i h => by omega⟩
  rw [← hne] at HB
  rw [← hne]
  go_enter Try.func36, Try.ntmps36
  go_wp2_with fail
  go_loopg [5] l1.length (fun gk s5 wr => CmpL w l1 l2 gk s5 wr)
  case atStart => exact J0.out
  case round =>
    clear J0
    obtain ⟨k, m, hk, rfl, hw, heq⟩ := hrel
    have HW := Lib.hid hw
    by_cases hlt : k < l1.length
    · have hlt2 : k < l2.length := by omega
      obtain ⟨g1, o1, c1, hv1, _, hc1⟩ := (HA.out.no (Kp.drewN m)).cellAt (by omega)
      obtain ⟨g2, o2, c2, hv2, _, hc2⟩ := (HB.out.no (Kp.drewN m)).cellAt (by omega)
      cases hv1
      cases hv2
      have f1 : wr.cell? ⟨g1, o1 + k, none⟩ = some (.int .i64 l1[k]) := by rw [hw]; exact hc1 k _ (by simp [intV, hlt])
      have f2 : wr.cell? ⟨g2, o2 + k, none⟩ = some (.int .i64 l2[k]) := by rw [hw]; exact hc2 k _ (by simp [intV, hlt2])
      have hlti : (k : Int) < l1.length := by omega
      have HK := Lib.hid hk
      by_cases hx : l1[k] = l2[k]
      · have JN : Hid (∀ d, CmpL w l1 l2 (l1.length - (k + 1)) (.int .i64 ((k + 1 : Nat) : Int)) (wr.drewN d)) := Lib.hid (fun d => ⟨k + 1, m + d, by omega, rfl, by rw [HW.out, World.drewN_drewN], fun i hi => by
          by_cases e : i = k
          · subst e; rw [List.getElem?_eq_getElem hlt, List.getElem?_eq_getElem hlt2, hx]
          · exact heq i (by omega)⟩)
        rw [← hx] at f2
        clear hk hw hc1 hc2 heq hx HR
        generalize l1[k] = x at *
        go_wp2_with fail
        go_quiet (fail)
        go_wp2_with fail
        go_roundg (l1.length - (k + 1))
        case measure => have := HK.out; omega
        case rel => exact JN.out _
      · obtain rfl : r = false := by rw [← HR.out]; exact decide_eq_false (fun e => by subst e; exact hx rfl)
        have hx1 : (l1[k] == l2[k]) = false := by simp [hx]
        have hx2 : (l1[k] != l2[k]) = true := by simp [hx]
        clear hk hw hc1 hc2 heq HR
        generalize l1[k] = x at *
        generalize l2[k] = y at *
        clear hx
        go_wp2_with fail
        go_quiet (fail)
        go_wp2_with fail
        go_ret
        exact ⟨rfl, _, by rw [HW.out, World.drewN_drewN]⟩
    · obtain rfl : k = l1.length := by omega
      obtain rfl : r = true := by
        rw [← HR.out]
        refine decide_eq_true (List.ext_getElem? (fun i => ?_))
        by_cases hi : i < l1.length
        · exact heq i hi
        · rw [List.getElem?_eq_none (by omega), List.getElem?_eq_none (by omega)]
      have hge : ¬ (l1.length : Int) < l1.length := by omega
      clear hk hw heq HR
      go_wp2_with fail
      go_ret
      exact ⟨rfl, m, HW.out⟩

end Go.Proofs.Ytngbodmooddjbaa
