/-
  DERIVED. GIVEN WITH THE SEED: THE CARDS: each row of YtohinonkfhkclaaDoorRows.lean that lists a variable, with what it lists TIED to the program's text (the seventh form; the later family's looks); each row that meets fmt, with fmt's text TOLD by the authors' own Lean function (tested against real Go, not proved from fmt's source: count such statements apart). THE CARD IS WHAT COUNTS. Prove the row's statement (the work); the ties are given (YtohinonkfhkclaaDoorTie.lean); close each card by the builder's one call (the guide's Derived/Test/ToyasCard.lean, 'card_holds'). Laid BY PROGRAM, IN A SANDBOX (cutbox-door.mjs). By AI agents, Wed Nov 11 2026. No macro, syntax, notation, axiom, sorry.
-/
import Derived.Test.YtohinonkfhkclaaDoorRows
import GoSem.ClaimSeven
namespace Go.Proofs.YtohinonkfhkclaaDoor
namespace Rows

/-- THE TIED CARD OF 'netverifylaw33.FailureLists'. -/
def failureListsCard : Claim7 := { stood := { row := failureListsRow, standIns := [], harness := (true, "390c47b9fb484f9360191c6e3ebf2846bf8ca5f65e0e4ea657be41971e1a635b"), looks := false }, kinds := [], alts := [], laidByText := true, laidKinds := [.data], laidTests := true, laidLooks := .later }
def FailureListsCardSaid : Prop := Claim7.holds Tryd.pinned (.plain (OpenSpec.ofChange failureListsSpec)) failureListsCard

/-- THE TIED CARD OF 'netverifylaw30.HeaderExchanges'. -/
def headerExchangesCard : Claim7 := { stood := { row := headerExchangesRow, standIns := [], harness := (true, "390c47b9fb484f9360191c6e3ebf2846bf8ca5f65e0e4ea657be41971e1a635b"), looks := false }, kinds := [], alts := [], laidByText := true, laidKinds := [.data], laidTests := true, laidLooks := .later }
def HeaderExchangesCardSaid : Prop := Claim7.holds Tryd.pinned (.plain (OpenSpec.ofChange headerExchangesSpec)) headerExchangesCard

/-- THE TIED CARD OF 'netverifylaw33.FailureProjects'. -/
def failureProjectsCard : Claim7 := { stood := { row := failureProjectsRow, standIns := [], harness := (true, "390c47b9fb484f9360191c6e3ebf2846bf8ca5f65e0e4ea657be41971e1a635b"), looks := false }, kinds := [], alts := [], laidByText := true, laidKinds := [.data], laidTests := true, laidLooks := .later }
def FailureProjectsCardSaid : Prop := Claim7.holds Tryd.pinned (.plain (OpenSpec.ofChange failureProjectsSpec)) failureProjectsCard

/-- THE TIED CARD OF 'netverifylaw30.HeaderRangeCounts'. -/
def headerRangeCountsCard : Claim7 := { stood := { row := headerRangeCountsRow, standIns := [], harness := (true, "390c47b9fb484f9360191c6e3ebf2846bf8ca5f65e0e4ea657be41971e1a635b"), looks := false }, kinds := [], alts := [], laidByText := true, laidKinds := [.data], laidTests := true, laidLooks := .later }
def HeaderRangeCountsCardSaid : Prop := Claim7.holds Tryd.pinned (.plain (OpenSpec.ofChange headerRangeCountsSpec)) headerRangeCountsCard

/-- THE TIED CARD OF 'netverifylaw30.HeaderPackets'. -/
def headerPacketsCard : Claim7 := { stood := { row := headerPacketsRow, standIns := [], harness := (true, "390c47b9fb484f9360191c6e3ebf2846bf8ca5f65e0e4ea657be41971e1a635b"), looks := false }, kinds := [], alts := [], laidByText := true, laidKinds := [.data], laidTests := true, laidLooks := .later }
def HeaderPacketsCardSaid : Prop := Claim7.holds Tryd.pinned (.plain (OpenSpec.ofChange headerPacketsSpec)) headerPacketsCard

/-- THE TIED CARD OF 'netverifylaw30.HeaderLeast'. -/
def headerLeastCard : Claim7 := { stood := { row := headerLeastRow, standIns := [], harness := (true, "390c47b9fb484f9360191c6e3ebf2846bf8ca5f65e0e4ea657be41971e1a635b"), looks := false }, kinds := [], alts := [], laidByText := true, laidKinds := [.data], laidTests := true, laidLooks := .later }
def HeaderLeastCardSaid : Prop := Claim7.holds Tryd.pinned (.plain (OpenSpec.ofChange headerLeastSpec)) headerLeastCard

/-- THE TIED CARD OF 'netverifylaw30.HeaderLeastFailures'. -/
def headerLeastFailuresCard : Claim7 := { stood := { row := headerLeastFailuresRow, standIns := [], harness := (true, "390c47b9fb484f9360191c6e3ebf2846bf8ca5f65e0e4ea657be41971e1a635b"), looks := false }, kinds := [], alts := [], laidByText := true, laidKinds := [.data], laidTests := true, laidLooks := .later }
def HeaderLeastFailuresCardSaid : Prop := Claim7.holds Tryd.pinned (.plain (OpenSpec.ofChange headerLeastFailuresSpec)) headerLeastFailuresCard

/-- THE SECOND FORM's CARD OF 'netverifylaw33.FailureLists'. -/
def failureListsUptoCard : Claim7 := { stood := { row := failureListsUptoRow, standIns := [], harness := (true, "390c47b9fb484f9360191c6e3ebf2846bf8ca5f65e0e4ea657be41971e1a635b"), looks := false }, kinds := [], alts := [], laidByText := true, laidKinds := [.data], laidTests := true, laidLooks := .later }
def FailureListsUptoCardSaid : Prop := Claim7.holds Tryd.pinned (.plain (OpenSpec.upto failureListsSpec)) failureListsUptoCard

/-- THE SECOND FORM's CARD OF 'netverifylaw30.HeaderExchanges'. -/
def headerExchangesUptoCard : Claim7 := { stood := { row := headerExchangesUptoRow, standIns := [], harness := (true, "390c47b9fb484f9360191c6e3ebf2846bf8ca5f65e0e4ea657be41971e1a635b"), looks := false }, kinds := [], alts := [], laidByText := true, laidKinds := [.data], laidTests := true, laidLooks := .later }
def HeaderExchangesUptoCardSaid : Prop := Claim7.holds Tryd.pinned (.plain (OpenSpec.upto headerExchangesSpec)) headerExchangesUptoCard

/-- THE SECOND FORM's CARD OF 'netverifylaw33.FailureProjects'. -/
def failureProjectsUptoCard : Claim7 := { stood := { row := failureProjectsUptoRow, standIns := [], harness := (true, "390c47b9fb484f9360191c6e3ebf2846bf8ca5f65e0e4ea657be41971e1a635b"), looks := false }, kinds := [], alts := [], laidByText := true, laidKinds := [.data], laidTests := true, laidLooks := .later }
def FailureProjectsUptoCardSaid : Prop := Claim7.holds Tryd.pinned (.plain (OpenSpec.upto failureProjectsSpec)) failureProjectsUptoCard

/-- THE SECOND FORM's CARD OF 'netverifylaw30.HeaderRangeCounts'. -/
def headerRangeCountsUptoCard : Claim7 := { stood := { row := headerRangeCountsUptoRow, standIns := [], harness := (true, "390c47b9fb484f9360191c6e3ebf2846bf8ca5f65e0e4ea657be41971e1a635b"), looks := false }, kinds := [], alts := [], laidByText := true, laidKinds := [.data], laidTests := true, laidLooks := .later }
def HeaderRangeCountsUptoCardSaid : Prop := Claim7.holds Tryd.pinned (.plain (OpenSpec.upto headerRangeCountsSpec)) headerRangeCountsUptoCard

/-- THE SECOND FORM's CARD OF 'netverifylaw30.HeaderPackets'. -/
def headerPacketsUptoCard : Claim7 := { stood := { row := headerPacketsUptoRow, standIns := [], harness := (true, "390c47b9fb484f9360191c6e3ebf2846bf8ca5f65e0e4ea657be41971e1a635b"), looks := false }, kinds := [], alts := [], laidByText := true, laidKinds := [.data], laidTests := true, laidLooks := .later }
def HeaderPacketsUptoCardSaid : Prop := Claim7.holds Tryd.pinned (.plain (OpenSpec.upto headerPacketsSpec)) headerPacketsUptoCard

/-- THE SECOND FORM's CARD OF 'netverifylaw30.HeaderLeast'. -/
def headerLeastUptoCard : Claim7 := { stood := { row := headerLeastUptoRow, standIns := [], harness := (true, "390c47b9fb484f9360191c6e3ebf2846bf8ca5f65e0e4ea657be41971e1a635b"), looks := false }, kinds := [], alts := [], laidByText := true, laidKinds := [.data], laidTests := true, laidLooks := .later }
def HeaderLeastUptoCardSaid : Prop := Claim7.holds Tryd.pinned (.plain (OpenSpec.upto headerLeastSpec)) headerLeastUptoCard

/-- THE SECOND FORM's CARD OF 'netverifylaw30.HeaderLeastFailures'. -/
def headerLeastFailuresUptoCard : Claim7 := { stood := { row := headerLeastFailuresUptoRow, standIns := [], harness := (true, "390c47b9fb484f9360191c6e3ebf2846bf8ca5f65e0e4ea657be41971e1a635b"), looks := false }, kinds := [], alts := [], laidByText := true, laidKinds := [.data], laidTests := true, laidLooks := .later }
def HeaderLeastFailuresUptoCardSaid : Prop := Claim7.holds Tryd.pinned (.plain (OpenSpec.upto headerLeastFailuresSpec)) headerLeastFailuresUptoCard
end Rows
end Go.Proofs.YtohinonkfhkclaaDoor
