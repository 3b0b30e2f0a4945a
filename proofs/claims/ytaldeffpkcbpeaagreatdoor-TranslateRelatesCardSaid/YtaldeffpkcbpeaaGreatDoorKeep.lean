/-
  Walks: comparisons of lists that are equal: 'Ints' of netverifykeep, 'Nodes' of netverifylaw26.
-/
import Derived.Test.YtaldeffpkcbpeaaGreatDoorQ
import Derived.Test.YtaldeffpkcbpeaaGreatDoorRep
import Derived.Deep.QuietTactic
import Derived.BigQuiet
namespace Go.Proofs.YtaldeffpkcbpeaaGreatDoor
open Go.RowKit

theorem row_zero {w : World} {B e size n : Nat} {v : Value} {xs : List Value} (h : w.ownsRow B e size v n xs) : w.ownsRow 0 e size v n xs := ⟨h.1, by
  rcases h.2 with x | ⟨g, cap, cur, hv, hg, r⟩
  · exact .inl x
  · exact .inr ⟨g, cap, cur, hv, Nat.zero_le _, r⟩⟩
/-! ### the whole of 'Save' -/
end Go.Proofs.YtaldeffpkcbpeaaGreatDoor

namespace Go.Proofs.YtaldeffpkcbpeaaGreatDoor
open Go.RowKit

/-- A cell of a slice. -/
theorem SrcAt.cellAt {w : World} {v : Value} {size n : Nat} {xs : List Value} (h : SrcAt w v size n xs) (hn : 0 < n) : ∃ g o c, v = .slice (some ⟨g, o, none⟩) n c ∧ g < w.heap.size ∧ ∀ (j : Nat) (u : Value), xs[j]? = some u → w.cell? ⟨g, o + j, none⟩ = some u := by
  obtain ⟨ao, c, rfl, hl, h⟩ := h
  rcases h with h | ⟨g, o, rfl, hg, h⟩
  · omega
  · exact ⟨g, o, c, rfl, hg, h⟩
theorem SrcAt.form {w : World} {v : Value} {size n : Nat} {xs : List Value} (h : SrcAt w v size n xs) : ∃ ao c, v = .slice ao n c := by
  obtain ⟨ao, c, hv, _⟩ := h
  exact ⟨ao, c, hv⟩

end Go.Proofs.YtaldeffpkcbpeaaGreatDoor
