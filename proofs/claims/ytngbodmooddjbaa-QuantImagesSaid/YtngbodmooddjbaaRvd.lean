/-
  The reference for lists of variables: Variables, Distinct.
-/
import Derived.Test.YtngbodmooddjbaaQn
import Derived.Test.YtngbodmooddjbaaRefT
import Derived.Deep.RegionHeld3
namespace Go.Proofs.Ytngbodmooddjbaa
open Go.RowKit

theorem SrcAt.of_intsAt {w : World} {v : Value} {l : List Int} (h : IntsAt w v l) : SrcAt w v 1 l.length (l.map intV) := by
  obtain ⟨ao, c, hv, _, hc⟩ := h
  refine ⟨ao, c, hv, by simp, ?_⟩
  rcases hc with hc | ⟨g, o, rfl, hg, hc⟩
  · exact .inl (by simp [hc])
  · refine .inr ⟨g, o, rfl, hg, fun j u hu => ?_⟩
    rw [List.getElem?_map] at hu
    obtain ⟨y, hy, rfl⟩ := Option.map_eq_some_iff.1 hu
    exact hc j y hy
theorem IntsAt.lenMax {w : World} {v : Value} {l : List Int} (h : IntsAt w v l) : l.length ≤ maxLen := by
  obtain ⟨_, _, _, h, _⟩ := h
  exact h

/-! ### Variables -/
set_option maxRecDepth 100000 in
set_option maxHeartbeats 1000000 in
theorem RVariables_ok (n : Nat) (l : List Int) (hl : l.length ≤ 1000000) {dv : Value} {w : World} (hd : SrcAt w dv 1 l.length (l.map intV)) :
    Calls Try.prog 85 #[dv, .int .i64 (n : Int)] w fun e w' => e = .returned (.bool (varsB n l)) ∧ w = w' := by
  have HD := Lib.hid hd
  obtain ⟨ao, cp, rfl⟩ := hd.form
  obtain ⟨ok, hok⟩ : ∃ b, varsB n l = b := ⟨_, rfl⟩
  rw [hok]
  have OK := Lib.hid hok
  clear hok hd
  have hli : (l.length : Int) ≤ 1000000 := by omega
  go_enter Try.func85, Try.ntmps85
  go_wp2_with fail
  go_loopg [5] l.length (fun gk s x => VaR w n l gk s x)
  case atStart => exact ⟨0, by omega, rfl, fun i h => by omega, rfl⟩
  case round =>
    obtain ⟨k, hk, rfl, hin, hw⟩ := hrel
    subst hw
    by_cases hlt : k < l.length
    · obtain ⟨g1, o1, c1, hv1, _, hcell⟩ := HD.out.cellAt (by omega)
      have hv2 : ao = some ⟨g1, o1, none⟩ := by injection hv1
      subst hv2
      have hc := hcell k (intV (l.getD k 0)) (by simp [hlt])
      unfold intV at hc
      have hlti : (k : Int) < l.length := by omega
      have HK := Lib.hid hk
      clear hcell hv1 hk
      by_cases h0 : 0 ≤ l.getD k 0
      · by_cases h1 : l.getD k 0 < n
        · have JN : Hid (VaR w n l (l.length - (k + 1)) (.int .i64 ((k + 1 : Nat) : Int)) w) := Lib.hid ⟨k + 1, by omega, rfl, fun i hi => by
            by_cases e : i = k
            · subst e; exact ⟨h0, h1⟩
            · exact hin i (by omega), rfl⟩
          have h1' : ¬ (n : Int) ≤ l.getD k 0 := by omega
          clear hin
          generalize l.getD k 0 = y at *
          go_wp2_with fail
          go_roundg (l.length - (k + 1))
          case measure => have := HK.out; omega
          case rel => exact JN.out
        · obtain rfl : ok = false := OK.out.symm.trans (varsB_bad hlt (fun h => h1 h.2))
          have h1' : (n : Int) ≤ l.getD k 0 := by omega
          clear hin
          generalize l.getD k 0 = y at *
          go_wp2_with fail
          go_ret
          exact ⟨rfl, rfl⟩
      · obtain rfl : ok = false := OK.out.symm.trans (varsB_bad hlt (fun h => h0 h.1))
        have h0' : l.getD k 0 < 0 := by omega
        clear hin
        generalize l.getD k 0 = y at *
        go_wp2_with fail
        go_ret
        exact ⟨rfl, rfl⟩
    · obtain rfl : k = l.length := by omega
      obtain rfl : ok = true := OK.out.symm.trans (varsB_true.2 hin)
      have hge : ¬ (l.length : Int) < l.length := by omega
      clear hin hk hlt
      go_wp2_with fail
      go_ret
      exact ⟨rfl, rfl⟩

/-! ### Distinct -/
theorem nodup_of_getD {l : List Int} (h : ∀ i j, j < i → i < l.length → l.getD j 0 ≠ l.getD i 0) : l.Nodup := by
  rw [List.nodup_iff_pairwise_ne, List.pairwise_iff_getElem]
  intro i j hi hj hij e
  refine h j i hij hj ?_
  rw [List.getD_eq_getElem?_getD, List.getD_eq_getElem?_getD, List.getElem?_eq_getElem hi, List.getElem?_eq_getElem hj]
  exact e
theorem not_nodup_of_getD {l : List Int} {i j : Nat} (hj : j < i) (hi : i < l.length) (e : l.getD j 0 = l.getD i 0) : ¬ l.Nodup := fun h => by
  rw [List.nodup_iff_pairwise_ne, List.pairwise_iff_getElem] at h
  refine h j i (by omega) hi hj ?_
  rw [List.getD_eq_getElem?_getD, List.getD_eq_getElem?_getD, List.getElem?_eq_getElem hi, List.getElem?_eq_getElem (by omega : j < l.length)] at e
  exact e
def distB (l : List Int) : Bool := decide l.Nodup
def DiO (w : World) (l : List Int) (gk : Nat) (s3 : Value) (x : World) : Prop :=
  ∃ k m, k + gk = l.length ∧ s3 = .int .i64 (k : Int) ∧ x = w.drewN m ∧ ∀ i j, j < i → i < k → l.getD j 0 ≠ l.getD i 0
def DiI (w : World) (l : List Int) (i gk : Nat) (s4 : Value) (x : World) : Prop :=
  ∃ k m, k + gk = i ∧ s4 = .int .i64 (k : Int) ∧ x = w.drewN m ∧ ∀ j, j < k → l.getD j 0 ≠ l.getD i 0
set_option maxRecDepth 100000 in
set_option maxHeartbeats 1000000 in
theorem RDistinct_ok (l : List Int) (hl : l.length ≤ 1000000) {dv : Value} {w : World} (hd : SrcAt w dv 1 l.length (l.map intV)) :
    Calls Try.prog 86 #[dv] w fun e w' => e = .returned (.bool (distB l)) ∧ ∃ m, w' = w.drewN m := by
  have HD := Lib.hid hd
  obtain ⟨ao, cp, rfl⟩ := hd.form
  obtain ⟨ok, hok⟩ : ∃ b, distB l = b := ⟨_, rfl⟩
  rw [hok]
  have OK := Lib.hid hok
  clear hok hd
  have hli : (l.length : Int) ≤ 1000000 := by omega
  go_enter Try.func86, Try.ntmps86
  go_wp2_with fail
  go_loopg [3, 4] l.length (fun gk s3 s4 x => DiO w l gk s3 x)
  case atStart => exact ⟨0, 0, by omega, rfl, rfl, fun i j _ h => by omega⟩
  case round =>
    obtain ⟨k, m, hk, rfl, hw, hin⟩ := hrel
    have HK := Lib.hid hk
    have HIN := Lib.hid hin
    clear hk hin
    by_cases hlt : k < l.length
    · have hlti : (k : Int) < l.length := by omega
      have J0 : Hid (DiI w l k k (.int .i64 0) wr) := Lib.hid ⟨0, m, by omega, rfl, hw, fun j h => by omega⟩
      clear hw
      go_wp2_with fail
      go_loopg [4] k (fun gk s4 x => DiI w l k gk s4 x)
      case atStart => exact J0.out
      case round =>
        obtain ⟨j, mj, hj, rfl, hwj, hjn⟩ := hrel
        have HW := Lib.hid hwj
        have HJ := Lib.hid hj
        have HJN := Lib.hid hjn
        by_cases hjk : j < k
        · obtain ⟨g1, o1, c1, hv1, _, hcell⟩ := (HD.out.no (Kp.drewN mj)).cellAt (by omega)
          have hv2 : ao = some ⟨g1, o1, none⟩ := by injection hv1
          subst hv2
          have c1 : wr.cell? ⟨g1, o1 + j, none⟩ = some (.int .i64 (l.getD j 0)) := by rw [hwj]; exact hcell j (intV (l.getD j 0)) (by simp [Nat.lt_trans hjk hlt])
          have c2 : wr.cell? ⟨g1, o1 + k, none⟩ = some (.int .i64 (l.getD k 0)) := by rw [hwj]; exact hcell k (intV (l.getD k 0)) (by simp [hlt])
          have hjki : (j : Int) < k := by omega
          have hjli : (j : Int) < l.length := by omega
          clear hcell hv1 hj hwj hjn J0
          by_cases e : l.getD j 0 = l.getD k 0
          · obtain rfl : ok = false := by rw [← OK.out]; exact decide_eq_false (not_nodup_of_getD hjk hlt e)
            rw [← e] at c2
            generalize l.getD j 0 = y at *
            go_wp2_with fail
            go_quiet (fail)
            go_wp2_with fail
            go_ret
            exact ⟨rfl, _, by rw [HW.out, World.drewN_drewN]⟩
          · have JN : Hid (∀ d, DiI w l k (k - (j + 1)) (.int .i64 ((j + 1 : Nat) : Int)) (wr.drewN d)) := Lib.hid (fun d => ⟨j + 1, mj + d, by omega, rfl, by rw [HW.out, World.drewN_drewN], fun i hi => by
              by_cases e' : i = j
              · subst e'; exact e
              · exact HJN.out i (by omega)⟩)
            generalize l.getD j 0 = y at *
            generalize l.getD k 0 = z at *
            go_wp2_with fail
            go_quiet (fail)
            go_wp2_with fail
            go_roundg (k - (j + 1))
            case measure => have := HJ.out; omega
            case rel => exact JN.out _
        · obtain rfl : j = k := by omega
          have hge : ¬ (j : Int) < j := by omega
          have JN : Hid (DiO w l (l.length - (j + 1)) (.int .i64 ((j + 1 : Nat) : Int)) wr) := Lib.hid ⟨j + 1, mj, by omega, rfl, hwj, fun a b hab ha => by
            by_cases e : a = j
            · subst e; exact hjn b hab
            · exact HIN.out a b hab (by omega)⟩
          clear hj hwj hjn hjk J0
          go_wp2_with fail
          go_roundg (l.length - (j + 1))
          case measure => have := HK.out; omega
          case rel => exact JN.out
    · obtain rfl : k = l.length := by have := HK.out; omega
      obtain rfl : ok = true := by rw [← OK.out]; exact decide_eq_true (nodup_of_getD (fun i j h1 h2 => HIN.out i j h1 h2))
      have hge : ¬ (l.length : Int) < l.length := by omega
      clear hlt
      go_wp2_with fail
      go_ret
      exact ⟨rfl, m, rfl⟩

end Go.Proofs.Ytngbodmooddjbaa
