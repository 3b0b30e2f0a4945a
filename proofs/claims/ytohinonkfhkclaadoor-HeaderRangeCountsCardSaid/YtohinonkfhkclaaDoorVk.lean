/-
  Walks: 'Compare' of the package cmp at ints; the closure of 'Count' that compares levels.
-/
import Derived.Test.YtohinonkfhkclaaDoorVs
import Derived.Lib.Small
import Derived.Deep.RegionHeld3
namespace Go.Proofs.YtohinonkfhkclaaDoor
open Go.RowKit Go.Lib

set_option maxRecDepth 100000 in
theorem isNaN_ok (x : Int) (w : World) : Calls Tryd.prog 102 #[.int .i64 x] w fun e w' => e = .returned (.bool false) ∧ w = w' := by
  go_enter Tryd.func102, Tryd.ntmps102
  go_wp2_with fail
  go_ret
  exact ⟨rfl, rfl⟩

set_option maxRecDepth 100000 in
theorem Compare_ok (x y : Int) (w : World) : Calls Tryd.prog 86 #[.int .i64 x, .int .i64 y] w fun e w' => e = .returned (.int .i64 (compareInt x y)) ∧ w = w' := by
  have N1 := Lib.hid (fun (z : Int) => isNaN_ok z w)
  unfold compareInt
  by_cases h : x < y
  · rw [if_pos h]
    go_enter Tryd.func86, Tryd.ntmps86
    go_wp2_with fail
    refine (N1.out x).mono ?_
    rintro e w' ⟨rfl, rfl⟩
    go_wp2_with fail
    refine (N1.out y).mono ?_
    rintro e w' ⟨rfl, rfl⟩
    go_wp2_with fail
    go_ret
    exact ⟨rfl, rfl⟩
  · rw [if_neg h]
    by_cases h2 : x > y
    · rw [if_pos h2]
      have h3 : y < x := h2
      go_enter Tryd.func86, Tryd.ntmps86
      go_wp2_with fail
      refine (N1.out x).mono ?_
      rintro e w' ⟨rfl, rfl⟩
      go_wp2_with fail
      refine (N1.out y).mono ?_
      rintro e w' ⟨rfl, rfl⟩
      go_wp2_with fail
      go_ret
      exact ⟨rfl, rfl⟩
    · rw [if_neg h2]
      have h3 : ¬ y < x := h2
      go_enter Tryd.func86, Tryd.ntmps86
      go_wp2_with fail
      refine (N1.out x).mono ?_
      rintro e w' ⟨rfl, rfl⟩
      go_wp2_with fail
      refine (N1.out y).mono ?_
      rintro e w' ⟨rfl, rfl⟩
      go_wp2_with fail
      go_ret
      exact ⟨rfl, rfl⟩

set_option maxRecDepth 100000 in
set_option maxHeartbeats 1000000 in
/-- The closure: the levels of two variables, compared. -/
theorem levCmp_ok (bx gl n c : Nat) (lev : Nat → Nat) (x y : Nat) (hx : x < n) (hy : y < n) {w : World} (hb : w.cell? ⟨bx, 0, none⟩ = some (.slice (some ⟨gl, 0, none⟩) n c)) (hl : ∀ v, v < n → w.cell? ⟨gl, v, none⟩ = some (.int .i64 (lev v : Int))) :
    Calls Tryd.prog 85 #[.int .i64 (x : Int), .int .i64 (y : Int), .pointer (some ⟨bx, 0, none⟩)] w fun e w' => e = .returned (.int .i64 (compareInt (lev x : Int) (lev y : Int))) ∧ ∃ q, w' = w.drewN q := by
  have cx := hl x hx
  have cy := hl y hy
  have CM := Lib.hid (fun (z : World) => Compare_ok (lev x : Int) (lev y : Int) z)
  have hxi : (x : Int) < (n : Int) := by omega
  have hyi : (y : Int) < (n : Int) := by omega
  generalize compareInt (lev x : Int) (lev y : Int) = r at *
  generalize lev x = lx at *
  generalize lev y = ly at *
  have S0 : Hid (w.drew.cell? ⟨bx, 0, none⟩ = some (.slice (some ⟨gl, 0, none⟩) n c) ∧ w.drew.cell? ⟨gl, x, none⟩ = some (.int .i64 (lx : Int)) ∧ w.drew.cell? ⟨gl, y, none⟩ = some (.int .i64 (ly : Int))) := Lib.hid ⟨hb, cx, cy⟩
  clear hl hb cx cy
  go_enter Tryd.func85, Tryd.ntmps85
  go_upto_region 1 with fail
  go_region_held3 (fun z => z.cell? ⟨bx, 0, none⟩ = some (.slice (some ⟨gl, 0, none⟩) n c) ∧ z.cell? ⟨gl, x, none⟩ = some (.int .i64 (lx : Int)) ∧ z.cell? ⟨gl, y, none⟩ = some (.int .i64 (ly : Int))) (first | exact S0.out) (first | (go_at_call 86; (with_reducible refine (CM.out _).mono ?_); rintro e w1 ⟨rfl, rfl⟩))
  all_goals
    go_wp2_with fail
    go_ret
    exact ⟨rfl, 1, rfl⟩

end Go.Proofs.YtohinonkfhkclaaDoor
