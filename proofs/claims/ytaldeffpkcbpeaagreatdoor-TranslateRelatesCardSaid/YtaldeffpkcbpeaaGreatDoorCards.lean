/-
  DERIVED. GIVEN WITH THE SEED: THE CARDS: each row of YtaldeffpkcbpeaaGreatDoorRows.lean that lists a variable, with what it lists TIED to the program's text (the seventh form; the later family's looks); each row that meets fmt, with fmt's text TOLD by the authors' own Lean function (tested against real Go, not proved from fmt's source: count such statements apart). THE CARD IS WHAT COUNTS. Prove the row's statement (the work); the ties are given (YtaldeffpkcbpeaaGreatDoorTie.lean); close each card by the builder's one call (the guide's Derived/Test/ToyasCard.lean, 'card_holds'). Laid BY PROGRAM, IN A SANDBOX (cutbox-door.mjs). By AI agents, Wed Nov 11 2026. No macro, syntax, notation, axiom, sorry.
-/
import Derived.Test.YtaldeffpkcbpeaaGreatDoorRows
import GoSem.ClaimSeven
namespace Go.Proofs.YtaldeffpkcbpeaaGreatDoor
namespace Rows

/-- THE TIED CARD OF 'netverifylaw32.TranslateRelates'. -/
def translateRelatesCard : Claim7 := { stood := { row := translateRelatesRow, standIns := [], harness := (true, "12b90c0460b0c2f2809cfdc0a5177542cdf753c218a80691e9128ddd5005d862"), looks := false }, kinds := [], alts := [], laidByText := true, laidKinds := [.data], laidTests := true, laidLooks := .later }
def TranslateRelatesCardSaid : Prop := Claim7.holds Tryz.pinned (.plain (OpenSpec.ofChange translateRelatesSpec)) translateRelatesCard

/-- THE SECOND FORM's CARD OF 'netverifylaw32.TranslateRelates'. -/
def translateRelatesUptoCard : Claim7 := { stood := { row := translateRelatesUptoRow, standIns := [], harness := (true, "12b90c0460b0c2f2809cfdc0a5177542cdf753c218a80691e9128ddd5005d862"), looks := false }, kinds := [], alts := [], laidByText := true, laidKinds := [.data], laidTests := true, laidLooks := .later }
def TranslateRelatesUptoCardSaid : Prop := Claim7.holds Tryz.pinned (.plain (OpenSpec.upto translateRelatesSpec)) translateRelatesUptoCard
end Rows
end Go.Proofs.YtaldeffpkcbpeaaGreatDoor
