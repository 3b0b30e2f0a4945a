/-
  DERIVED. GIVEN WITH THE SEED: THE CARDS: each row of YtdgnbbmgcgfibaaGreatDoorRows.lean that lists a variable, with what it lists TIED to the program's text (the seventh form; the later family's looks); each row that meets fmt, with fmt's text TOLD by the authors' own Lean function (tested against real Go, not proved from fmt's source: count such statements apart). THE CARD IS WHAT COUNTS. Prove the row's statement (the work); the ties are given (YtdgnbbmgcgfibaaGreatDoorTie.lean); close each card by the builder's one call (the guide's Derived/Test/ToyasCard.lean, 'card_holds'). Laid BY PROGRAM, IN A SANDBOX (cutbox-door.mjs). By AI agents, Wed Nov 11 2026. No macro, syntax, notation, axiom, sorry.
-/
import Derived.Test.YtdgnbbmgcgfibaaGreatDoorRows
import GoSem.ClaimSeven
namespace Go.Proofs.YtdgnbbmgcgfibaaGreatDoor
namespace Rows

/-- THE TIED CARD OF 'netverifylaw32.TranslateTotal'. -/
def translateTotalCard : Claim7 := { stood := { row := translateTotalRow, standIns := [], harness := (true, "2b3effaccac64271ed46e5900adde6f356be2ef0feb2a8b0eca942ada9867ece"), looks := false }, kinds := [], alts := [], laidByText := true, laidKinds := [.data], laidTests := true, laidLooks := .later }
def TranslateTotalCardSaid : Prop := Claim7.holds Tryz.pinned (.plain (OpenSpec.ofChange translateTotalSpec)) translateTotalCard

/-- THE TIED CARD OF 'netverifylaw32.TranslateFailures'. -/
def translateFailuresCard : Claim7 := { stood := { row := translateFailuresRow, standIns := [], harness := (true, "2b3effaccac64271ed46e5900adde6f356be2ef0feb2a8b0eca942ada9867ece"), looks := false }, kinds := [], alts := [], laidByText := true, laidKinds := [.data], laidTests := true, laidLooks := .later }
def TranslateFailuresCardSaid : Prop := Claim7.holds Tryz.pinned (.plain (OpenSpec.ofChange translateFailuresSpec)) translateFailuresCard

/-- THE SECOND FORM's CARD OF 'netverifylaw32.TranslateTotal'. -/
def translateTotalUptoCard : Claim7 := { stood := { row := translateTotalUptoRow, standIns := [], harness := (true, "2b3effaccac64271ed46e5900adde6f356be2ef0feb2a8b0eca942ada9867ece"), looks := false }, kinds := [], alts := [], laidByText := true, laidKinds := [.data], laidTests := true, laidLooks := .later }
def TranslateTotalUptoCardSaid : Prop := Claim7.holds Tryz.pinned (.plain (OpenSpec.upto translateTotalSpec)) translateTotalUptoCard

/-- THE SECOND FORM's CARD OF 'netverifylaw32.TranslateFailures'. -/
def translateFailuresUptoCard : Claim7 := { stood := { row := translateFailuresUptoRow, standIns := [], harness := (true, "2b3effaccac64271ed46e5900adde6f356be2ef0feb2a8b0eca942ada9867ece"), looks := false }, kinds := [], alts := [], laidByText := true, laidKinds := [.data], laidTests := true, laidLooks := .later }
def TranslateFailuresUptoCardSaid : Prop := Claim7.holds Tryz.pinned (.plain (OpenSpec.upto translateFailuresSpec)) translateFailuresUptoCard
end Rows
end Go.Proofs.YtdgnbbmgcgfibaaGreatDoor
