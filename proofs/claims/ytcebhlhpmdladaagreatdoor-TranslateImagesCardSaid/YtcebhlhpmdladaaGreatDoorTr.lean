/-
  Walks: the law TranslateRefuses.
-/
import Derived.Test.YtcebhlhpmdladaaGreatDoorKb
import Derived.Test.YtcebhlhpmdladaaGreatDoorKr
namespace Go.Proofs.YtcebhlhpmdladaaGreatDoor
open Go.RowKit

theorem valid_neg {M : Mgr} {x : Int} (h : x < 0) : M.valid x = false := by
  unfold Mgr.valid
  simp
  omega
end Go.Proofs.YtcebhlhpmdladaaGreatDoor
