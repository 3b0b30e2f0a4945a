/-
  DERIVED. GIVEN WITH THE SEED: THE CARDS: each row of YtgglkldoclejaaaDoorRows.lean that lists a variable, with what it lists TIED to the program's text (the seventh form; the later family's looks); each row that meets fmt, with fmt's text TOLD by the authors' own Lean function (tested against real Go, not proved from fmt's source: count such statements apart). THE CARD IS WHAT COUNTS. Prove the row's statement (the work); the ties are given (YtgglkldoclejaaaDoorTie.lean); close each card by the builder's one call (the guide's Derived/Test/ToyasCard.lean, 'card_holds'). Laid BY PROGRAM, IN A SANDBOX (cutbox-door.mjs). By AI agents, Wed Nov 11 2026. No macro, syntax, notation, axiom, sorry.
-/
import Derived.Test.YtgglkldoclejaaaDoorRows
import GoSem.ClaimSeven
namespace Go.Proofs.YtgglkldoclejaaaDoor
namespace Rows

/-- THE TIED CARD OF 'netverifylaw30.HeaderVariables'. -/
def headerVariablesCard : Claim7 := { stood := { row := headerVariablesRow, standIns := [], harness := (true, "4286fc508672aebdd150c6c6dc63739a7e2bd97940d67245a3196b10b1a904a5"), looks := false }, kinds := [], alts := [], laidByText := true, laidKinds := [.data], laidTests := true, laidLooks := .later }
def HeaderVariablesCardSaid : Prop := Claim7.holds Tryd.pinned (.plain (OpenSpec.ofChange headerVariablesSpec)) headerVariablesCard

/-- THE TIED CARD OF 'netverifylaw30.HeaderEncodes'. -/
def headerEncodesCard : Claim7 := { stood := { row := headerEncodesRow, standIns := [], harness := (true, "4286fc508672aebdd150c6c6dc63739a7e2bd97940d67245a3196b10b1a904a5"), looks := false }, kinds := [], alts := [], laidByText := true, laidKinds := [.data], laidTests := true, laidLooks := .later }
def HeaderEncodesCardSaid : Prop := Claim7.holds Tryd.pinned (.plain (OpenSpec.ofChange headerEncodesSpec)) headerEncodesCard

/-- THE TIED CARD OF 'netverifylaw30.HeaderDecodes'. -/
def headerDecodesCard : Claim7 := { stood := { row := headerDecodesRow, standIns := [], harness := (true, "4286fc508672aebdd150c6c6dc63739a7e2bd97940d67245a3196b10b1a904a5"), looks := false }, kinds := [], alts := [], laidByText := true, laidKinds := [.data], laidTests := true, laidLooks := .later }
def HeaderDecodesCardSaid : Prop := Claim7.holds Tryd.pinned (.plain (OpenSpec.ofChange headerDecodesSpec)) headerDecodesCard

/-- THE TIED CARD OF 'netverifylaw30.HeaderRanges'. -/
def headerRangesCard : Claim7 := { stood := { row := headerRangesRow, standIns := [], harness := (true, "4286fc508672aebdd150c6c6dc63739a7e2bd97940d67245a3196b10b1a904a5"), looks := false }, kinds := [], alts := [], laidByText := true, laidKinds := [.data], laidTests := true, laidLooks := .later }
def HeaderRangesCardSaid : Prop := Claim7.holds Tryd.pinned (.plain (OpenSpec.ofChange headerRangesSpec)) headerRangesCard

/-- THE TIED CARD OF 'netverifylaw30.HeaderSames'. -/
def headerSamesCard : Claim7 := { stood := { row := headerSamesRow, standIns := [], harness := (true, "4286fc508672aebdd150c6c6dc63739a7e2bd97940d67245a3196b10b1a904a5"), looks := false }, kinds := [], alts := [], laidByText := true, laidKinds := [.data], laidTests := true, laidLooks := .later }
def HeaderSamesCardSaid : Prop := Claim7.holds Tryd.pinned (.plain (OpenSpec.ofChange headerSamesSpec)) headerSamesCard

/-- THE TIED CARD OF 'netverifylaw30.HeaderWildcards'. -/
def headerWildcardsCard : Claim7 := { stood := { row := headerWildcardsRow, standIns := [], harness := (true, "4286fc508672aebdd150c6c6dc63739a7e2bd97940d67245a3196b10b1a904a5"), looks := false }, kinds := [], alts := [], laidByText := true, laidKinds := [.data], laidTests := true, laidLooks := .later }
def HeaderWildcardsCardSaid : Prop := Claim7.holds Tryd.pinned (.plain (OpenSpec.ofChange headerWildcardsSpec)) headerWildcardsCard

/-- THE TIED CARD OF 'netverifylaw30.HeaderPrefixes'. -/
def headerPrefixesCard : Claim7 := { stood := { row := headerPrefixesRow, standIns := [], harness := (true, "4286fc508672aebdd150c6c6dc63739a7e2bd97940d67245a3196b10b1a904a5"), looks := false }, kinds := [], alts := [], laidByText := true, laidKinds := [.data], laidTests := true, laidLooks := .later }
def HeaderPrefixesCardSaid : Prop := Claim7.holds Tryd.pinned (.plain (OpenSpec.ofChange headerPrefixesSpec)) headerPrefixesCard

/-- THE TIED CARD OF 'netverifylaw30.HeaderMatches'. -/
def headerMatchesCard : Claim7 := { stood := { row := headerMatchesRow, standIns := [], harness := (true, "4286fc508672aebdd150c6c6dc63739a7e2bd97940d67245a3196b10b1a904a5"), looks := false }, kinds := [], alts := [], laidByText := true, laidKinds := [.data], laidTests := true, laidLooks := .later }
def HeaderMatchesCardSaid : Prop := Claim7.holds Tryd.pinned (.plain (OpenSpec.ofChange headerMatchesSpec)) headerMatchesCard

/-- THE TIED CARD OF 'netverifylaw33.FailureCounts'. -/
def failureCountsCard : Claim7 := { stood := { row := failureCountsRow, standIns := [], harness := (true, "4286fc508672aebdd150c6c6dc63739a7e2bd97940d67245a3196b10b1a904a5"), looks := false }, kinds := [], alts := [], laidByText := true, laidKinds := [.data], laidTests := true, laidLooks := .later }
def FailureCountsCardSaid : Prop := Claim7.holds Tryd.pinned (.plain (OpenSpec.ofChange failureCountsSpec)) failureCountsCard

/-- THE TIED CARD OF 'netverifylaw33.FailureLists'. -/
def failureListsCard : Claim7 := { stood := { row := failureListsRow, standIns := [], harness := (true, "4286fc508672aebdd150c6c6dc63739a7e2bd97940d67245a3196b10b1a904a5"), looks := false }, kinds := [], alts := [], laidByText := true, laidKinds := [.data], laidTests := true, laidLooks := .later }
def FailureListsCardSaid : Prop := Claim7.holds Tryd.pinned (.plain (OpenSpec.ofChange failureListsSpec)) failureListsCard

/-- THE TIED CARD OF 'netverifylaw33.FailureNests'. -/
def failureNestsCard : Claim7 := { stood := { row := failureNestsRow, standIns := [], harness := (true, "4286fc508672aebdd150c6c6dc63739a7e2bd97940d67245a3196b10b1a904a5"), looks := false }, kinds := [], alts := [], laidByText := true, laidKinds := [.data], laidTests := true, laidLooks := .later }
def FailureNestsCardSaid : Prop := Claim7.holds Tryd.pinned (.plain (OpenSpec.ofChange failureNestsSpec)) failureNestsCard

/-- THE TIED CARD OF 'netverifylaw33.FailureRefuses'. -/
def failureRefusesCard : Claim7 := { stood := { row := failureRefusesRow, standIns := [], harness := (true, "4286fc508672aebdd150c6c6dc63739a7e2bd97940d67245a3196b10b1a904a5"), looks := false }, kinds := [], alts := [], laidByText := true, laidKinds := [.data], laidTests := true, laidLooks := .later }
def FailureRefusesCardSaid : Prop := Claim7.holds Tryd.pinned (.plain (OpenSpec.ofChange failureRefusesSpec)) failureRefusesCard

/-- THE SECOND FORM's CARD OF 'netverifylaw30.HeaderVariables'. -/
def headerVariablesUptoCard : Claim7 := { stood := { row := headerVariablesUptoRow, standIns := [], harness := (true, "4286fc508672aebdd150c6c6dc63739a7e2bd97940d67245a3196b10b1a904a5"), looks := false }, kinds := [], alts := [], laidByText := true, laidKinds := [.data], laidTests := true, laidLooks := .later }
def HeaderVariablesUptoCardSaid : Prop := Claim7.holds Tryd.pinned (.plain (OpenSpec.upto headerVariablesSpec)) headerVariablesUptoCard

/-- THE SECOND FORM's CARD OF 'netverifylaw30.HeaderEncodes'. -/
def headerEncodesUptoCard : Claim7 := { stood := { row := headerEncodesUptoRow, standIns := [], harness := (true, "4286fc508672aebdd150c6c6dc63739a7e2bd97940d67245a3196b10b1a904a5"), looks := false }, kinds := [], alts := [], laidByText := true, laidKinds := [.data], laidTests := true, laidLooks := .later }
def HeaderEncodesUptoCardSaid : Prop := Claim7.holds Tryd.pinned (.plain (OpenSpec.upto headerEncodesSpec)) headerEncodesUptoCard

/-- THE SECOND FORM's CARD OF 'netverifylaw30.HeaderDecodes'. -/
def headerDecodesUptoCard : Claim7 := { stood := { row := headerDecodesUptoRow, standIns := [], harness := (true, "4286fc508672aebdd150c6c6dc63739a7e2bd97940d67245a3196b10b1a904a5"), looks := false }, kinds := [], alts := [], laidByText := true, laidKinds := [.data], laidTests := true, laidLooks := .later }
def HeaderDecodesUptoCardSaid : Prop := Claim7.holds Tryd.pinned (.plain (OpenSpec.upto headerDecodesSpec)) headerDecodesUptoCard

/-- THE SECOND FORM's CARD OF 'netverifylaw30.HeaderRanges'. -/
def headerRangesUptoCard : Claim7 := { stood := { row := headerRangesUptoRow, standIns := [], harness := (true, "4286fc508672aebdd150c6c6dc63739a7e2bd97940d67245a3196b10b1a904a5"), looks := false }, kinds := [], alts := [], laidByText := true, laidKinds := [.data], laidTests := true, laidLooks := .later }
def HeaderRangesUptoCardSaid : Prop := Claim7.holds Tryd.pinned (.plain (OpenSpec.upto headerRangesSpec)) headerRangesUptoCard

/-- THE SECOND FORM's CARD OF 'netverifylaw30.HeaderSames'. -/
def headerSamesUptoCard : Claim7 := { stood := { row := headerSamesUptoRow, standIns := [], harness := (true, "4286fc508672aebdd150c6c6dc63739a7e2bd97940d67245a3196b10b1a904a5"), looks := false }, kinds := [], alts := [], laidByText := true, laidKinds := [.data], laidTests := true, laidLooks := .later }
def HeaderSamesUptoCardSaid : Prop := Claim7.holds Tryd.pinned (.plain (OpenSpec.upto headerSamesSpec)) headerSamesUptoCard

/-- THE SECOND FORM's CARD OF 'netverifylaw30.HeaderWildcards'. -/
def headerWildcardsUptoCard : Claim7 := { stood := { row := headerWildcardsUptoRow, standIns := [], harness := (true, "4286fc508672aebdd150c6c6dc63739a7e2bd97940d67245a3196b10b1a904a5"), looks := false }, kinds := [], alts := [], laidByText := true, laidKinds := [.data], laidTests := true, laidLooks := .later }
def HeaderWildcardsUptoCardSaid : Prop := Claim7.holds Tryd.pinned (.plain (OpenSpec.upto headerWildcardsSpec)) headerWildcardsUptoCard

/-- THE SECOND FORM's CARD OF 'netverifylaw30.HeaderPrefixes'. -/
def headerPrefixesUptoCard : Claim7 := { stood := { row := headerPrefixesUptoRow, standIns := [], harness := (true, "4286fc508672aebdd150c6c6dc63739a7e2bd97940d67245a3196b10b1a904a5"), looks := false }, kinds := [], alts := [], laidByText := true, laidKinds := [.data], laidTests := true, laidLooks := .later }
def HeaderPrefixesUptoCardSaid : Prop := Claim7.holds Tryd.pinned (.plain (OpenSpec.upto headerPrefixesSpec)) headerPrefixesUptoCard

/-- THE SECOND FORM's CARD OF 'netverifylaw30.HeaderMatches'. -/
def headerMatchesUptoCard : Claim7 := { stood := { row := headerMatchesUptoRow, standIns := [], harness := (true, "4286fc508672aebdd150c6c6dc63739a7e2bd97940d67245a3196b10b1a904a5"), looks := false }, kinds := [], alts := [], laidByText := true, laidKinds := [.data], laidTests := true, laidLooks := .later }
def HeaderMatchesUptoCardSaid : Prop := Claim7.holds Tryd.pinned (.plain (OpenSpec.upto headerMatchesSpec)) headerMatchesUptoCard

/-- THE SECOND FORM's CARD OF 'netverifylaw33.FailureCounts'. -/
def failureCountsUptoCard : Claim7 := { stood := { row := failureCountsUptoRow, standIns := [], harness := (true, "4286fc508672aebdd150c6c6dc63739a7e2bd97940d67245a3196b10b1a904a5"), looks := false }, kinds := [], alts := [], laidByText := true, laidKinds := [.data], laidTests := true, laidLooks := .later }
def FailureCountsUptoCardSaid : Prop := Claim7.holds Tryd.pinned (.plain (OpenSpec.upto failureCountsSpec)) failureCountsUptoCard

/-- THE SECOND FORM's CARD OF 'netverifylaw33.FailureLists'. -/
def failureListsUptoCard : Claim7 := { stood := { row := failureListsUptoRow, standIns := [], harness := (true, "4286fc508672aebdd150c6c6dc63739a7e2bd97940d67245a3196b10b1a904a5"), looks := false }, kinds := [], alts := [], laidByText := true, laidKinds := [.data], laidTests := true, laidLooks := .later }
def FailureListsUptoCardSaid : Prop := Claim7.holds Tryd.pinned (.plain (OpenSpec.upto failureListsSpec)) failureListsUptoCard

/-- THE SECOND FORM's CARD OF 'netverifylaw33.FailureNests'. -/
def failureNestsUptoCard : Claim7 := { stood := { row := failureNestsUptoRow, standIns := [], harness := (true, "4286fc508672aebdd150c6c6dc63739a7e2bd97940d67245a3196b10b1a904a5"), looks := false }, kinds := [], alts := [], laidByText := true, laidKinds := [.data], laidTests := true, laidLooks := .later }
def FailureNestsUptoCardSaid : Prop := Claim7.holds Tryd.pinned (.plain (OpenSpec.upto failureNestsSpec)) failureNestsUptoCard

/-- THE SECOND FORM's CARD OF 'netverifylaw33.FailureRefuses'. -/
def failureRefusesUptoCard : Claim7 := { stood := { row := failureRefusesUptoRow, standIns := [], harness := (true, "4286fc508672aebdd150c6c6dc63739a7e2bd97940d67245a3196b10b1a904a5"), looks := false }, kinds := [], alts := [], laidByText := true, laidKinds := [.data], laidTests := true, laidLooks := .later }
def FailureRefusesUptoCardSaid : Prop := Claim7.holds Tryd.pinned (.plain (OpenSpec.upto failureRefusesSpec)) failureRefusesUptoCard
end Rows
end Go.Proofs.YtgglkldoclejaaaDoor
