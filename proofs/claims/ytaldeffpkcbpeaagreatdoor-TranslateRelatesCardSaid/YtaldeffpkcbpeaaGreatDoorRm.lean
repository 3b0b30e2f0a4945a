/-
  Walks: 'Rename' of the package quant.
-/
import Derived.Test.YtaldeffpkcbpeaaGreatDoorQ
import Derived.Test.YtaldeffpkcbpeaaGreatDoorHpm
import Derived.Test.YtaldeffpkcbpeaaGreatDoorKeep
namespace Go.Proofs.YtaldeffpkcbpeaaGreatDoor
open Go.RowKit

section
variable {w0 w w' : World} {p bs : Nat} {L0 L L' : Lay} {X : List (Nat × Obj)} {I : Mgr → World → Prop} {M M' : Mgr}
end

/-! ### the plain law of products -/
def andF (M : Mgr) (f g : Nat) : Bfn := fun a => M.sem f a && M.sem g a
namespace Mgr
section
variable {M M1 M2 : Mgr} {l : List Nat} {F : Bfn} {v r0 r1 : Nat}
end
end Mgr

end Go.Proofs.YtaldeffpkcbpeaaGreatDoor

namespace Go.Proofs.YtaldeffpkcbpeaaGreatDoor
open Go.RowKit

theorem rowForm {w : World} {B e size n : Nat} {v : Value} {xs : List Value} (h : w.ownsRow B e size v n xs) : ∃ a c, v = .slice a n c := by
  rcases h.2 with ⟨rfl, rfl⟩ | ⟨g, cap, cur, rfl, _⟩
  · exact ⟨none, 0, rfl⟩
  · exact ⟨_, cap, rfl⟩
section
variable {w x y : World} {p br bs : Nat} {v : Value} {T : List Nat}
end

end Go.Proofs.YtaldeffpkcbpeaaGreatDoor
