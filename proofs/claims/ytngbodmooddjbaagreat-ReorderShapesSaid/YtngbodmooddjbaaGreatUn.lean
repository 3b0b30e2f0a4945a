/-
  Walks: the law ReorderUndoes.
-/
import Derived.Test.YtngbodmooddjbaaGreatAwr
import Derived.Test.YtngbodmooddjbaaGreatFront
import Derived.Test.YtngbodmooddjbaaGreatKeep
namespace Go.Proofs.YtngbodmooddjbaaGreat
open Go.RowKit

theorem visF_le {M M1 : Mgr} (h : M.WF) (e : ∀ f, M1.vis f = M.vis f) : (visF M1).length ≤ M.nodes.length := by
  have := Mgr.nodup_length (visF M1) (List.range M.shown.length) (List.nodup_range.sublist List.filter_sublist) (fun f hf => by
    have hv : M1.vis f = true := by simpa using (List.mem_filter.1 hf).2
    rw [e] at hv
    rw [List.mem_range]
    rcases Nat.lt_or_ge f M.shown.length with h1 | h1
    · exact h1
    · unfold Mgr.vis at hv
      rw [List.getD_eq_getElem?_getD, List.getElem?_eq_none h1] at hv
      cases hv)
  rw [List.length_range, h.sh] at this
  exact this
theorem three_pow {n : Nat} (h : n ≤ 6) : 3 ^ n ≤ 729 := by
  have : 3 ^ n ≤ 3 ^ 6 := Nat.pow_le_pow_right (by omega) h
  simpa using this
/-- The bound of 'Arrange' where there are at most k visible functions. -/
theorem ar_bound {M : Mgr} {k : Nat} (hn : M.n ≤ 6) (h : (visF M).length ≤ k) : (visF M).length * 3 ^ M.n + M.n + 2 ≤ k * 729 + 8 := by
  have h1 : (visF M).length * 3 ^ M.n ≤ k * 729 := Nat.mul_le_mul h (three_pow hn)
  omega
def swV (n : Nat) (v : Int) : Bool := decide (0 ≤ v ∧ v < (n : Int) - 1)
theorem Swap_any {p : Nat} {M : Mgr} {L : Lay} {w : World} (v : Int) (R : Rep w p M L) (hn : M.n ≤ 6) (hk : (visF M).length ≤ 50000) (hm : M.nodes.length ≤ 500000000) :
    Calls Tryz.prog 25 #[ptr p, .int .i64 v] w fun e w' => e = .returned (.bool (swV M.n v)) ∧ ArS w p M L (if swV M.n v then swO M.order v.toNat else M.order) w' := by
  by_cases h : 0 ≤ v ∧ v < (M.n : Int) - 1
  · have e : swV M.n v = true := decide_eq_true h
    rw [e, if_pos rfl]
    obtain ⟨k, rfl⟩ := Int.eq_ofNat_of_zero_le h.1
    exact Swap_ok k R (by omega) (by omega) (by have := ar_bound hn hk; unfold big; omega) (by omega)
  · have e : swV M.n v = false := decide_eq_false h
    rw [e]
    refine (Swap_bad v R (by omega) (by omega)).mono ?_
    rintro e w' ⟨rfl, k⟩
    exact ⟨rfl, ArS.same R k⟩
end Go.Proofs.YtngbodmooddjbaaGreat
