/-
  Walks: 'Width', 'Var', 'values', 'packet', 'New' of the package header.
-/
import Derived.Test.YtgglkldoclejaaaDoorHs
namespace Go.Proofs.YtgglkldoclejaaaDoor
open Go.RowKit

theorem Gl.f {w : World} (g : Gl w) {k : Nat} (hk : k < 5) : w.cell? ⟨0, 2 * k, none⟩ = some (.int .i64 (ff k : Int)) ∧ w.cell? ⟨0, 2 * k + 1, none⟩ = some (.int .i64 (fw k : Int)) := by
  refine ⟨?_, ?_⟩
  · rw [g (2 * k) (by omega)]; rcases five hk with rfl | rfl | rfl | rfl | rfl <;> rfl
  · rw [g (2 * k + 1) (by omega)]; rcases five hk with rfl | rfl | rfl | rfl | rfl <;> rfl

set_option maxRecDepth 100000 in
theorem Width_in (k : Nat) (hk : k < 5) {w : World} (g : Gl w) : Calls Tryd.prog 20 #[.int .i64 (k : Int)] w fun e w' => e = .returned (.int .i64 (fw k : Int)) ∧ w = w' := by
  have hc := (g.f hk).2
  rcases five hk with rfl | rfl | rfl | rfl | rfl
  all_goals
    go_enter Tryd.func20, Tryd.ntmps20
    go_wp2_with fail
    go_ret
    exact ⟨rfl, rfl⟩

set_option maxRecDepth 100000 in
theorem Width_out (k : Int) (hk : ¬ (0 ≤ k ∧ k < 5)) (w : World) : Calls Tryd.prog 20 #[.int .i64 k] w fun e w' => e = .returned (.int .i64 0) ∧ w = w' := by
  by_cases h0 : k < 0
  · go_enter Tryd.func20, Tryd.ntmps20
    go_wp2_with fail
    go_ret
    exact ⟨rfl, rfl⟩
  · have h5 : 5 ≤ k := by omega
    go_enter Tryd.func20, Tryd.ntmps20
    go_wp2_with fail
    go_ret
    exact ⟨rfl, rfl⟩

set_option maxRecDepth 100000 in
theorem variable_ok' (b : Nat) (nx : Bool) (hb : b ≤ 1000) (w : World) : Calls Tryd.prog 57 #[.int .i64 (b : Int), .bool nx] w fun e w' => e = .returned (.int .i64 (hvar b nx : Int)) ∧ w = w' := by
  have e : (hvar b nx : Int) = 12 + 2 * (b : Int) + (if nx then 1 else 0) := by unfold hvar; cases nx <;> simp
  rw [e]
  cases nx
  all_goals
    go_enter Tryd.func57, Tryd.ntmps57
    go_wp2_with fail
    go_ret
    exact ⟨by simp, rfl⟩

set_option maxRecDepth 100000 in
theorem HVar_in (k b : Nat) (nx : Bool) (hk : k < 5) (hb : b < fw k) {w : World} (g : Gl w) : Calls Tryd.prog 19 #[.int .i64 (k : Int), .int .i64 (b : Int), .bool nx] w fun e w' => e = .returned (.int .i64 (fvar k b nx : Int)) ∧ w = w' := by
  have hc := (g.f hk).1
  have W := Lib.hid (Width_in k hk g)
  have V := Lib.hid (variable_ok' (ff k + b) nx (by have := ff_fw hk; omega) w)
  have hbi : (b : Int) < (fw k : Int) := by omega
  have hb0 : ¬ (b : Int) < 0 := by omega
  have hle := fw_le k
  have hff := ff_fw hk
  unfold fvar
  generalize fw k = f at *
  generalize hvar (ff k + b) nx = r at *
  have hn : ¬ ((f : Int) ≤ (b : Int)) := by omega
  clear g hb
  rcases five hk with rfl | rfl | rfl | rfl | rfl
  all_goals
    go_enter Tryd.func19, Tryd.ntmps19
    go_wp2_with fail
    refine W.out.mono ?_
    rintro e w' ⟨rfl, rfl⟩
    go_wp2_with fail
    first
    | refine V.out.mono ?_
    | (have e := V.out; simp only [ff, List.getD, Nat.zero_add, Int.natCast_add] at e; refine Calls.mono e ?_)
    rintro e w' ⟨rfl, rfl⟩
    go_wp2_with fail
    go_ret
    exact ⟨rfl, rfl⟩

end Go.Proofs.YtgglkldoclejaaaDoor
