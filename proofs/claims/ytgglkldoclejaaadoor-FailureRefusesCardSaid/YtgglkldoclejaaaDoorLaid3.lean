/-
  Arguments that are slices of integers, as sources.
-/
import Derived.Test.YtgglkldoclejaaaDoorLaid
namespace Go.Proofs.YtgglkldoclejaaaDoor
open Go.RowKit

theorem SrcAt.of_ints {w : World} {v : Value} {l : List Int} (h : IntsAt w v l) : SrcAt w v 1 l.length (l.map intV) := by
  obtain ⟨ao, c, hv, _, hc⟩ := h
  refine ⟨ao, c, hv, by simp, ?_⟩
  rcases hc with hc | ⟨g, o, rfl, hg, hc⟩
  · exact .inl (by simp [hc])
  · refine .inr ⟨g, o, rfl, hg, fun j u hu => ?_⟩
    rw [List.getElem?_map] at hu
    obtain ⟨y, hy, rfl⟩ := Option.map_eq_some_iff.1 hu
    exact hc j y hy

theorem IntsAt.len {w : World} {v : Value} {l : List Int} (h : IntsAt w v l) : l.length ≤ maxLen := by
  obtain ⟨_, _, _, h, _⟩ := h
  exact h

end Go.Proofs.YtgglkldoclejaaaDoor
