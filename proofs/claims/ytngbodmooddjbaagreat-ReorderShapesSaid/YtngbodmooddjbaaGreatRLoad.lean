/-
  Walks: 'Load' of the reference netverifyref26.
-/
import Derived.Test.YtngbodmooddjbaaGreatFront
import Derived.Test.YtngbodmooddjbaaGreatOps
import Derived.Test.YtngbodmooddjbaaGreatKeep
import Derived.Test.YtngbodmooddjbaaGreatRunJ
namespace Go.Proofs.YtngbodmooddjbaaGreat
open Go.RowKit

/-- Whether the node at index i is one. -/
def okAt (n i : Nat) (x : Trip) : Prop := (0 ≤ x.1 ∧ x.1 < n) ∧ (0 ≤ x.2.1 ∧ x.2.1 ≤ i + 1) ∧ (0 ≤ x.2.2 ∧ x.2.2 ≤ i + 1)
instance (n i : Nat) (x : Trip) : Decidable (okAt n i x) := by unfold okAt; infer_instance
theorem info_ref' : (Tryz.prog.info? 40).map (fun i => (i.zero, i.size, i.bytes)) = some (some (.int .i64 0), 1, 8) := by kernel_rfl

theorem lo_at {g ga n c : Nat} {x : World} {o : Obj} (h : g = ga ∨ g = x.heap.size + 1) : (Value.slice (some ⟨ga, 0, none⟩) n c).ownBlock = some g ∨ g = (x.alloc o).heap.size := by
  rcases h with h | h
  · exact .inl (by rw [h]; rfl)
  · exact .inr (by simpa using h)
end Go.Proofs.YtngbodmooddjbaaGreat

namespace Go.Proofs.YtngbodmooddjbaaGreat
open Go.RowKit

theorem info_func' : (Tryz.prog.info? 42).map (fun i => (i.zero, i.size, i.bytes)) = some (some (.slice none 0 0), 1, 24) := by kernel_rfl

section
variable {w : World} {n : Nat} {x y : World} {lv : Value} {tvs : List Value} {Fs : List BF}
end

end Go.Proofs.YtngbodmooddjbaaGreat
