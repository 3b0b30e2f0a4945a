/-
  DERIVED. GIVEN WITH THE SEED: THE CARDS: each row of YteflklmijepboaaGreatDoorRows.lean that lists a variable, with what it lists TIED to the program's text (the seventh form; the later family's looks); each row that meets fmt, with fmt's text TOLD by the authors' own Lean function (tested against real Go, not proved from fmt's source: count such statements apart). THE CARD IS WHAT COUNTS. Prove the row's statement (the work); the ties are given (YteflklmijepboaaGreatDoorTie.lean); close each card by the builder's one call (the guide's Derived/Test/ToyasCard.lean, 'card_holds'). Laid BY PROGRAM, IN A SANDBOX (cutbox-door.mjs). By AI agents, Wed Nov 11 2026. No macro, syntax, notation, axiom, sorry.
-/
import Derived.Test.YteflklmijepboaaGreatDoorRows
import GoSem.ClaimSeven
namespace Go.Proofs.YteflklmijepboaaGreatDoor
namespace Rows

/-- THE TIED CARD OF 'netverifylaw32.TranslateRefuses'. -/
def translateRefusesCard : Claim7 := { stood := { row := translateRefusesRow, standIns := [], harness := (true, "eecf183320c5d51fac60600e2b66dd2369184d6c58493a834657967b44c2d3bc"), looks := false }, kinds := [], alts := [], laidByText := true, laidKinds := [.data], laidTests := true, laidLooks := .later }
def TranslateRefusesCardSaid : Prop := Claim7.holds Tryz.pinned (.plain (OpenSpec.ofChange translateRefusesSpec)) translateRefusesCard

/-- THE SECOND FORM's CARD OF 'netverifylaw32.TranslateRefuses'. -/
def translateRefusesUptoCard : Claim7 := { stood := { row := translateRefusesUptoRow, standIns := [], harness := (true, "eecf183320c5d51fac60600e2b66dd2369184d6c58493a834657967b44c2d3bc"), looks := false }, kinds := [], alts := [], laidByText := true, laidKinds := [.data], laidTests := true, laidLooks := .later }
def TranslateRefusesUptoCardSaid : Prop := Claim7.holds Tryz.pinned (.plain (OpenSpec.upto translateRefusesSpec)) translateRefusesUptoCard
end Rows
end Go.Proofs.YteflklmijepboaaGreatDoor
