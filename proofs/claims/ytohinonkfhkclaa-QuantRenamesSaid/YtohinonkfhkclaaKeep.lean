/-
  Walks: comparisons of lists that are equal: 'Ints' of netverifykeep, 'Nodes' of netverifylaw26.
-/
import Derived.Test.YtohinonkfhkclaaSave
import Derived.Deep.QuietTactic
import Derived.BigQuiet
namespace Go.Proofs.Ytohinonkfhkclaa
open Go.RowKit

/-- A cell of a slice. -/
theorem SrcAt.cellAt {w : World} {v : Value} {size n : Nat} {xs : List Value} (h : SrcAt w v size n xs) (hn : 0 < n) : ∃ g o c, v = .slice (some ⟨g, o, none⟩) n c ∧ g < w.heap.size ∧ ∀ (j : Nat) (u : Value), xs[j]? = some u → w.cell? ⟨g, o + j, none⟩ = some u := by
  obtain ⟨ao, c, rfl, hl, h⟩ := h
  rcases h with h | ⟨g, o, rfl, hg, h⟩
  · omega
  · exact ⟨g, o, c, rfl, hg, h⟩
theorem SrcAt.form {w : World} {v : Value} {size n : Nat} {xs : List Value} (h : SrcAt w v size n xs) : ∃ ao c, v = .slice ao n c := by
  obtain ⟨ao, c, hv, _⟩ := h
  exact ⟨ao, c, hv⟩

def CmpR (w : World) (N gk : Nat) (s5 : Value) (wr : World) : Prop := ∃ k m, k + gk = N ∧ s5 = .int .i64 (k : Int) ∧ wr = w.drewN m

theorem flat_get {N : List Nd} {k : Nat} (h : k < N.length) : (N.flatMap ndCells)[k * 3]? = some (.int .i64 (N.getD k (0, 0, 0)).1) ∧ (N.flatMap ndCells)[k * 3 + 1]? = some (.int .i64 ((N.getD k (0, 0, 0)).2.1 : Int)) ∧ (N.flatMap ndCells)[k * 3 + 2]? = some (.int .i64 ((N.getD k (0, 0, 0)).2.2 : Int)) := by
  have hg : N[k]? = some (N.getD k (0, 0, 0)) := by simp [h]
  exact ⟨ndCells_get N k 0 _ hg (by omega), ndCells_get N k 1 _ hg (by omega), ndCells_get N k 2 _ hg (by omega)⟩

end Go.Proofs.Ytohinonkfhkclaa
