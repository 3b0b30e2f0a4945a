/-
  DERIVED. GIVEN WITH THE SEED: THE CARDS: each row of YtcebhlhpmdladaaGreatDoorRows.lean that lists a variable, with what it lists TIED to the program's text (the seventh form; the later family's looks); each row that meets fmt, with fmt's text TOLD by the authors' own Lean function (tested against real Go, not proved from fmt's source: count such statements apart). THE CARD IS WHAT COUNTS. Prove the row's statement (the work); the ties are given (YtcebhlhpmdladaaGreatDoorTie.lean); close each card by the builder's one call (the guide's Derived/Test/ToyasCard.lean, 'card_holds'). Laid BY PROGRAM, IN A SANDBOX (cutbox-door.mjs). By AI agents, Wed Nov 11 2026. No macro, syntax, notation, axiom, sorry.
-/
import Derived.Test.YtcebhlhpmdladaaGreatDoorRows
import GoSem.ClaimSeven
namespace Go.Proofs.YtcebhlhpmdladaaGreatDoor
namespace Rows

/-- THE TIED CARD OF 'netverifylaw32.TranslateImages'. -/
def translateImagesCard : Claim7 := { stood := { row := translateImagesRow, standIns := [], harness := (true, "e113bc91ff839f9569ba21dc4a4f880eab01ef3ef6a3f90ac31f696fdb1b795e"), looks := false }, kinds := [], alts := [], laidByText := true, laidKinds := [.data], laidTests := true, laidLooks := .later }
def TranslateImagesCardSaid : Prop := Claim7.holds Tryz.pinned (.plain (OpenSpec.ofChange translateImagesSpec)) translateImagesCard

/-- THE SECOND FORM's CARD OF 'netverifylaw32.TranslateImages'. -/
def translateImagesUptoCard : Claim7 := { stood := { row := translateImagesUptoRow, standIns := [], harness := (true, "e113bc91ff839f9569ba21dc4a4f880eab01ef3ef6a3f90ac31f696fdb1b795e"), looks := false }, kinds := [], alts := [], laidByText := true, laidKinds := [.data], laidTests := true, laidLooks := .later }
def TranslateImagesUptoCardSaid : Prop := Claim7.holds Tryz.pinned (.plain (OpenSpec.upto translateImagesSpec)) translateImagesUptoCard
end Rows
end Go.Proofs.YtcebhlhpmdladaaGreatDoor
