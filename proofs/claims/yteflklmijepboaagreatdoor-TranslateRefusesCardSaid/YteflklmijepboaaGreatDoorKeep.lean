/-
  Walks: comparisons of lists that are equal: 'Ints' of netverifykeep, 'Nodes' of netverifylaw26.
-/
import Derived.Test.YteflklmijepboaaGreatDoorQ
import Derived.Test.YteflklmijepboaaGreatDoorRep
import Derived.Deep.QuietTactic
import Derived.BigQuiet
namespace Go.Proofs.YteflklmijepboaaGreatDoor
open Go.RowKit

/-- A cell of a slice. -/
theorem SrcAt.cellAt {w : World} {v : Value} {size n : Nat} {xs : List Value} (h : SrcAt w v size n xs) (hn : 0 < n) : ∃ g o c, v = .slice (some ⟨g, o, none⟩) n c ∧ g < w.heap.size ∧ ∀ (j : Nat) (u : Value), xs[j]? = some u → w.cell? ⟨g, o + j, none⟩ = some u := by
  obtain ⟨ao, c, rfl, hl, h⟩ := h
  rcases h with h | ⟨g, o, rfl, hg, h⟩
  · omega
  · exact ⟨g, o, c, rfl, hg, h⟩
theorem SrcAt.form {w : World} {v : Value} {size n : Nat} {xs : List Value} (h : SrcAt w v size n xs) : ∃ ao c, v = .slice ao n c := by
  obtain ⟨ao, c, hv, _⟩ := h
  exact ⟨ao, c, hv⟩

end Go.Proofs.YteflklmijepboaaGreatDoor
