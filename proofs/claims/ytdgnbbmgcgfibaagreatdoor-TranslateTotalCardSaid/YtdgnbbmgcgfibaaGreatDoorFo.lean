/-
  Plain mathematics: the law FailureProjects.
-/
import Derived.Test.YtdgnbbmgcgfibaaGreatDoorHw6
import Derived.Test.YtdgnbbmgcgfibaaGreatDoorQ
import Derived.Test.YtdgnbbmgcgfibaaGreatDoorHpm
import Derived.Test.YtdgnbbmgcgfibaaGreatDoorRep
import Derived.Test.YtdgnbbmgcgfibaaGreatDoorKeep
import Derived.Test.YtdgnbbmgcgfibaaGreatDoorRm
namespace Go.Proofs.YtdgnbbmgcgfibaaGreatDoor
open Go.RowKit

section
variable (ss ps : List Nat)
end

/-! ### how many cofactors -/
/-- a for the links, y for the rest. -/
def jn (a y : Nat → Bool) : Nat → Bool := fun v => if v < 12 then a v else y v
/-! ### the law -/
/-- All variables but the links. -/
def others : List Nat := (List.range 208).map fun i => 12 + i
/-! ### the family of 'Some' -/
end Go.Proofs.YtdgnbbmgcgfibaaGreatDoor
