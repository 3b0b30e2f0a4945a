/-
  Walks: the law TranslateRefuses.
-/
import Derived.Test.YtaldeffpkcbpeaaGreatDoorKb
import Derived.Test.YtaldeffpkcbpeaaGreatDoorKr
namespace Go.Proofs.YtaldeffpkcbpeaaGreatDoor
open Go.RowKit

theorem valid_neg {M : Mgr} {x : Int} (h : x < 0) : M.valid x = false := by
  unfold Mgr.valid
  simp
  omega
end Go.Proofs.YtaldeffpkcbpeaaGreatDoor
