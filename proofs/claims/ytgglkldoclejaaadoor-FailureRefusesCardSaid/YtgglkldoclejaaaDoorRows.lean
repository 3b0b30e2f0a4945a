/-
  NARROWER THAN 'FOR EVERY INPUT', by the rows' own cells (each row's printed sentence says how): HeaderVariables: laid · HeaderEncodes: laid · HeaderDecodes: laid · HeaderRanges: laid · HeaderSames: laid · HeaderWildcards: laid · HeaderPrefixes: laid · HeaderMatches: laid · FailureCounts: laid · FailureLists: laid · FailureNests: laid · FailureRefuses: laid.
  DERIVED. THE GIVEN ROWS OF THIS SEAT. 12 by the template 'for every input the law returns true; each argument reads behind the call as it read before'; 0 by the template 'total and deterministic' (their statements: YtgglkldoclejaaaDoorTotals.lean).
  GIVEN WITH THE SEED: the statements are not yours to turn. If you find one false, say at which input.
  Laid BY PROGRAM, IN A SANDBOX (cutbox-rows.mjs): the forced cells as the released guide's own fill.sh prints them over the translation 0fdb58359a809201… (all of the seat's roots in one cut). By AI agents, Wed Nov 11 2026. No macro, syntax, notation, axiom, sorry.
-/
import Derived.Test.YtgglkldoclejaaaDoorChecked
import GoSem.Claim
import GoSem.ClaimJoined
import GoSem.ClaimMapViews
import Derived.JoinedTies
import Derived.KernelRfl
namespace Go.Proofs.YtgglkldoclejaaaDoor
/- THE CELL 'sum', in the pinned program and in every row, IS THE sha256 OF THE DUMP (.gsa) THAT YtgglkldoclejaaaDoorProg.lean LOADS. Nothing in Lean hashes anything: it is a label: what it is worth is what the hold of that sum in a sandbox is worth. -/
noncomputable def Tryd.pinned : Pinned := { name := "ytgglkldoclejaaadoor", sum := "0fdb58359a8092016554d3dbaaad4e463dd99b60c0ef64b1b3354d1fd7a2d2ed", checked := Tryd.checked }
namespace Rows
def none {H : Type} : Left H := { results := [], args := [] }

/- WHAT THE LISTED PACKAGE-LEVEL VARIABLES READ AS WHEN THE CALL BEGINS. Each datum BY PROGRAM (the guide's laid-datum.mjs) off the statement by which the dump's own 'gosem.cut.vars' lays the variable. In a bare row this is a premise. The card (YtgglkldoclejaaaDoorCards.lean) ties it to the program's text. -/
def laid_netverify_header_fields {H : Type} : DataW H := .agg [.agg [.lit (.int .i64 0), .lit (.int .i64 32)], .agg [.lit (.int .i64 32), .lit (.int .i64 32)], .agg [.lit (.int .i64 64), .lit (.int .i64 8)], .agg [.lit (.int .i64 72), .lit (.int .i64 16)], .agg [.lit (.int .i64 88), .lit (.int .i64 16)]]

/-- 'netverifylaw30.HeaderVariables': WHATEVER THE INPUT: true; the input reads as it did. -/
def headerVariablesSpec : ChangeSpec := { name := "headerVariables", fn := fun _ => fun
  | [d1, d2, d3, d4] => { results := [.lit (.bool true)], args := [d1, d2, d3, d4] }
  | _ => none }
def headerVariablesRow : OpenClaim := { program := "ytgglkldoclejaaadoor", sum := "0fdb58359a8092016554d3dbaaad4e463dd99b60c0ef64b1b3354d1fd7a2d2ed", func := "netverify/netverifylaw30.HeaderVariables", spec := "headerVariables", recurses := true, named := ["netverify/header.fields"], plainKeys := false, apart := false, laid := [("netverify/header.fields", laid_netverify_header_fields)] }
def HeaderVariablesSaid : Prop := headerVariablesRow.holds Tryd.pinned (OpenSpec.ofChange headerVariablesSpec)

/-- ITS FALSE NEIGHBOUR: 'it returns false'. Refute it at one input. -/
def headerVariablesWrong : ChangeSpec := { name := "headerVariables", fn := fun _ => fun
  | [d1, d2, d3, d4] => { results := [.lit (.bool false)], args := [d1, d2, d3, d4] }
  | _ => none }
def HeaderVariablesWrongFalsely : Prop := headerVariablesRow.holds Tryd.pinned (OpenSpec.ofChange headerVariablesWrong)

/-- 'netverifylaw30.HeaderEncodes': WHATEVER THE INPUT: true; the input reads as it did. -/
def headerEncodesSpec : ChangeSpec := { name := "headerEncodes", fn := fun _ => fun
  | [d1, d2, d3, d4, d5] => { results := [.lit (.bool true)], args := [d1, d2, d3, d4, d5] }
  | _ => none }
def headerEncodesRow : OpenClaim := { program := "ytgglkldoclejaaadoor", sum := "0fdb58359a8092016554d3dbaaad4e463dd99b60c0ef64b1b3354d1fd7a2d2ed", func := "netverify/netverifylaw30.HeaderEncodes", spec := "headerEncodes", recurses := true, named := ["netverify/header.fields"], plainKeys := false, apart := false, laid := [("netverify/header.fields", laid_netverify_header_fields)] }
def HeaderEncodesSaid : Prop := headerEncodesRow.holds Tryd.pinned (OpenSpec.ofChange headerEncodesSpec)

/-- ITS FALSE NEIGHBOUR: 'it returns false'. Refute it at one input. -/
def headerEncodesWrong : ChangeSpec := { name := "headerEncodes", fn := fun _ => fun
  | [d1, d2, d3, d4, d5] => { results := [.lit (.bool false)], args := [d1, d2, d3, d4, d5] }
  | _ => none }
def HeaderEncodesWrongFalsely : Prop := headerEncodesRow.holds Tryd.pinned (OpenSpec.ofChange headerEncodesWrong)

/-- 'netverifylaw30.HeaderDecodes': WHATEVER THE INPUT: true; the input reads as it did. -/
def headerDecodesSpec : ChangeSpec := { name := "headerDecodes", fn := fun _ => fun
  | [d] => { results := [.lit (.bool true)], args := [d] }
  | _ => none }
def headerDecodesRow : OpenClaim := { program := "ytgglkldoclejaaadoor", sum := "0fdb58359a8092016554d3dbaaad4e463dd99b60c0ef64b1b3354d1fd7a2d2ed", func := "netverify/netverifylaw30.HeaderDecodes", spec := "headerDecodes", recurses := true, named := ["netverify/header.fields"], plainKeys := false, apart := false, laid := [("netverify/header.fields", laid_netverify_header_fields)] }
def HeaderDecodesSaid : Prop := headerDecodesRow.holds Tryd.pinned (OpenSpec.ofChange headerDecodesSpec)

/-- ITS FALSE NEIGHBOUR: 'it returns false'. Refute it at one input. -/
def headerDecodesWrong : ChangeSpec := { name := "headerDecodes", fn := fun _ => fun
  | [d] => { results := [.lit (.bool false)], args := [d] }
  | _ => none }
def HeaderDecodesWrongFalsely : Prop := headerDecodesRow.holds Tryd.pinned (OpenSpec.ofChange headerDecodesWrong)

/-- 'netverifylaw30.HeaderRanges': WHATEVER THE INPUT: true; the input reads as it did. -/
def headerRangesSpec : ChangeSpec := { name := "headerRanges", fn := fun _ => fun
  | [d1, d2, d3, d4, d5, d6] => { results := [.lit (.bool true)], args := [d1, d2, d3, d4, d5, d6] }
  | _ => none }
def headerRangesRow : OpenClaim := { program := "ytgglkldoclejaaadoor", sum := "0fdb58359a8092016554d3dbaaad4e463dd99b60c0ef64b1b3354d1fd7a2d2ed", func := "netverify/netverifylaw30.HeaderRanges", spec := "headerRanges", recurses := true, named := ["netverify/header.fields"], plainKeys := false, apart := false, laid := [("netverify/header.fields", laid_netverify_header_fields)] }
def HeaderRangesSaid : Prop := headerRangesRow.holds Tryd.pinned (OpenSpec.ofChange headerRangesSpec)

/-- ITS FALSE NEIGHBOUR: 'it returns false'. Refute it at one input. -/
def headerRangesWrong : ChangeSpec := { name := "headerRanges", fn := fun _ => fun
  | [d1, d2, d3, d4, d5, d6] => { results := [.lit (.bool false)], args := [d1, d2, d3, d4, d5, d6] }
  | _ => none }
def HeaderRangesWrongFalsely : Prop := headerRangesRow.holds Tryd.pinned (OpenSpec.ofChange headerRangesWrong)

/-- 'netverifylaw30.HeaderSames': WHATEVER THE INPUT: true; the input reads as it did. -/
def headerSamesSpec : ChangeSpec := { name := "headerSames", fn := fun _ => fun
  | [d1, d2, d3, d4] => { results := [.lit (.bool true)], args := [d1, d2, d3, d4] }
  | _ => none }
def headerSamesRow : OpenClaim := { program := "ytgglkldoclejaaadoor", sum := "0fdb58359a8092016554d3dbaaad4e463dd99b60c0ef64b1b3354d1fd7a2d2ed", func := "netverify/netverifylaw30.HeaderSames", spec := "headerSames", recurses := true, named := ["netverify/header.fields"], plainKeys := false, apart := false, laid := [("netverify/header.fields", laid_netverify_header_fields)] }
def HeaderSamesSaid : Prop := headerSamesRow.holds Tryd.pinned (OpenSpec.ofChange headerSamesSpec)

/-- ITS FALSE NEIGHBOUR: 'it returns false'. Refute it at one input. -/
def headerSamesWrong : ChangeSpec := { name := "headerSames", fn := fun _ => fun
  | [d1, d2, d3, d4] => { results := [.lit (.bool false)], args := [d1, d2, d3, d4] }
  | _ => none }
def HeaderSamesWrongFalsely : Prop := headerSamesRow.holds Tryd.pinned (OpenSpec.ofChange headerSamesWrong)

/-- 'netverifylaw30.HeaderWildcards': WHATEVER THE INPUT: true; the input reads as it did. -/
def headerWildcardsSpec : ChangeSpec := { name := "headerWildcards", fn := fun _ => fun
  | [d1, d2, d3, d4, d5] => { results := [.lit (.bool true)], args := [d1, d2, d3, d4, d5] }
  | _ => none }
def headerWildcardsRow : OpenClaim := { program := "ytgglkldoclejaaadoor", sum := "0fdb58359a8092016554d3dbaaad4e463dd99b60c0ef64b1b3354d1fd7a2d2ed", func := "netverify/netverifylaw30.HeaderWildcards", spec := "headerWildcards", unfollowed := true, recurses := true, named := ["netverify/header.fields"], plainKeys := false, apart := false, laid := [("netverify/header.fields", laid_netverify_header_fields)] }
def HeaderWildcardsSaid : Prop := headerWildcardsRow.holds Tryd.pinned (OpenSpec.ofChange headerWildcardsSpec)

/-- ITS FALSE NEIGHBOUR: 'it returns false'. Refute it at one input. -/
def headerWildcardsWrong : ChangeSpec := { name := "headerWildcards", fn := fun _ => fun
  | [d1, d2, d3, d4, d5] => { results := [.lit (.bool false)], args := [d1, d2, d3, d4, d5] }
  | _ => none }
def HeaderWildcardsWrongFalsely : Prop := headerWildcardsRow.holds Tryd.pinned (OpenSpec.ofChange headerWildcardsWrong)

/-- 'netverifylaw30.HeaderPrefixes': WHATEVER THE INPUT: true; the input reads as it did. -/
def headerPrefixesSpec : ChangeSpec := { name := "headerPrefixes", fn := fun _ => fun
  | [d1, d2, d3, d4, d5] => { results := [.lit (.bool true)], args := [d1, d2, d3, d4, d5] }
  | _ => none }
def headerPrefixesRow : OpenClaim := { program := "ytgglkldoclejaaadoor", sum := "0fdb58359a8092016554d3dbaaad4e463dd99b60c0ef64b1b3354d1fd7a2d2ed", func := "netverify/netverifylaw30.HeaderPrefixes", spec := "headerPrefixes", unfollowed := true, recurses := true, named := ["netverify/header.fields"], plainKeys := false, apart := false, laid := [("netverify/header.fields", laid_netverify_header_fields)] }
def HeaderPrefixesSaid : Prop := headerPrefixesRow.holds Tryd.pinned (OpenSpec.ofChange headerPrefixesSpec)

/-- ITS FALSE NEIGHBOUR: 'it returns false'. Refute it at one input. -/
def headerPrefixesWrong : ChangeSpec := { name := "headerPrefixes", fn := fun _ => fun
  | [d1, d2, d3, d4, d5] => { results := [.lit (.bool false)], args := [d1, d2, d3, d4, d5] }
  | _ => none }
def HeaderPrefixesWrongFalsely : Prop := headerPrefixesRow.holds Tryd.pinned (OpenSpec.ofChange headerPrefixesWrong)

/-- 'netverifylaw30.HeaderMatches': WHATEVER THE INPUT: true; the input reads as it did. -/
def headerMatchesSpec : ChangeSpec := { name := "headerMatches", fn := fun _ => fun
  | [d1, d2, d3, d4] => { results := [.lit (.bool true)], args := [d1, d2, d3, d4] }
  | _ => none }
def headerMatchesRow : OpenClaim := { program := "ytgglkldoclejaaadoor", sum := "0fdb58359a8092016554d3dbaaad4e463dd99b60c0ef64b1b3354d1fd7a2d2ed", func := "netverify/netverifylaw30.HeaderMatches", spec := "headerMatches", recurses := true, named := ["netverify/header.fields"], plainKeys := false, apart := false, laid := [("netverify/header.fields", laid_netverify_header_fields)] }
def HeaderMatchesSaid : Prop := headerMatchesRow.holds Tryd.pinned (OpenSpec.ofChange headerMatchesSpec)

/-- ITS FALSE NEIGHBOUR: 'it returns false'. Refute it at one input. -/
def headerMatchesWrong : ChangeSpec := { name := "headerMatches", fn := fun _ => fun
  | [d1, d2, d3, d4] => { results := [.lit (.bool false)], args := [d1, d2, d3, d4] }
  | _ => none }
def HeaderMatchesWrongFalsely : Prop := headerMatchesRow.holds Tryd.pinned (OpenSpec.ofChange headerMatchesWrong)

/-- 'netverifylaw33.FailureCounts': WHATEVER THE INPUT: true; the input reads as it did. -/
def failureCountsSpec : ChangeSpec := { name := "failureCounts", fn := fun _ => fun
  | [d1, d2, d3, d4] => { results := [.lit (.bool true)], args := [d1, d2, d3, d4] }
  | _ => none }
def failureCountsRow : OpenClaim := { program := "ytgglkldoclejaaadoor", sum := "0fdb58359a8092016554d3dbaaad4e463dd99b60c0ef64b1b3354d1fd7a2d2ed", func := "netverify/netverifylaw33.FailureCounts", spec := "failureCounts", unfollowed := true, recurses := true, named := ["netverify/header.fields"], plainKeys := false, apart := false, laid := [("netverify/header.fields", laid_netverify_header_fields)] }
def FailureCountsSaid : Prop := failureCountsRow.holds Tryd.pinned (OpenSpec.ofChange failureCountsSpec)

/-- ITS FALSE NEIGHBOUR: 'it returns false'. Refute it at one input. -/
def failureCountsWrong : ChangeSpec := { name := "failureCounts", fn := fun _ => fun
  | [d1, d2, d3, d4] => { results := [.lit (.bool false)], args := [d1, d2, d3, d4] }
  | _ => none }
def FailureCountsWrongFalsely : Prop := failureCountsRow.holds Tryd.pinned (OpenSpec.ofChange failureCountsWrong)

/-- 'netverifylaw33.FailureLists': WHATEVER THE INPUT: true; the input reads as it did. -/
def failureListsSpec : ChangeSpec := { name := "failureLists", fn := fun _ => fun
  | [d1, d2, d3] => { results := [.lit (.bool true)], args := [d1, d2, d3] }
  | _ => none }
def failureListsRow : OpenClaim := { program := "ytgglkldoclejaaadoor", sum := "0fdb58359a8092016554d3dbaaad4e463dd99b60c0ef64b1b3354d1fd7a2d2ed", func := "netverify/netverifylaw33.FailureLists", spec := "failureLists", unfollowed := true, recurses := true, named := ["netverify/header.fields"], plainKeys := false, apart := false, laid := [("netverify/header.fields", laid_netverify_header_fields)] }
def FailureListsSaid : Prop := failureListsRow.holds Tryd.pinned (OpenSpec.ofChange failureListsSpec)

/-- ITS FALSE NEIGHBOUR: 'it returns false'. Refute it at one input. -/
def failureListsWrong : ChangeSpec := { name := "failureLists", fn := fun _ => fun
  | [d1, d2, d3] => { results := [.lit (.bool false)], args := [d1, d2, d3] }
  | _ => none }
def FailureListsWrongFalsely : Prop := failureListsRow.holds Tryd.pinned (OpenSpec.ofChange failureListsWrong)

/-- 'netverifylaw33.FailureNests': WHATEVER THE INPUT: true; the input reads as it did. -/
def failureNestsSpec : ChangeSpec := { name := "failureNests", fn := fun _ => fun
  | [d1, d2] => { results := [.lit (.bool true)], args := [d1, d2] }
  | _ => none }
def failureNestsRow : OpenClaim := { program := "ytgglkldoclejaaadoor", sum := "0fdb58359a8092016554d3dbaaad4e463dd99b60c0ef64b1b3354d1fd7a2d2ed", func := "netverify/netverifylaw33.FailureNests", spec := "failureNests", unfollowed := true, recurses := true, named := ["netverify/header.fields"], plainKeys := false, apart := false, laid := [("netverify/header.fields", laid_netverify_header_fields)] }
def FailureNestsSaid : Prop := failureNestsRow.holds Tryd.pinned (OpenSpec.ofChange failureNestsSpec)

/-- ITS FALSE NEIGHBOUR: 'it returns false'. Refute it at one input. -/
def failureNestsWrong : ChangeSpec := { name := "failureNests", fn := fun _ => fun
  | [d1, d2] => { results := [.lit (.bool false)], args := [d1, d2] }
  | _ => none }
def FailureNestsWrongFalsely : Prop := failureNestsRow.holds Tryd.pinned (OpenSpec.ofChange failureNestsWrong)

/-- 'netverifylaw33.FailureRefuses': WHATEVER THE INPUT: true; the input reads as it did. -/
def failureRefusesSpec : ChangeSpec := { name := "failureRefuses", fn := fun _ => fun
  | [d] => { results := [.lit (.bool true)], args := [d] }
  | _ => none }
def failureRefusesRow : OpenClaim := { program := "ytgglkldoclejaaadoor", sum := "0fdb58359a8092016554d3dbaaad4e463dd99b60c0ef64b1b3354d1fd7a2d2ed", func := "netverify/netverifylaw33.FailureRefuses", spec := "failureRefuses", unfollowed := true, recurses := true, named := ["netverify/header.fields"], plainKeys := false, apart := false, laid := [("netverify/header.fields", laid_netverify_header_fields)] }
def FailureRefusesSaid : Prop := failureRefusesRow.holds Tryd.pinned (OpenSpec.ofChange failureRefusesSpec)

/-- ITS FALSE NEIGHBOUR: 'it returns false'. Refute it at one input. -/
def failureRefusesWrong : ChangeSpec := { name := "failureRefuses", fn := fun _ => fun
  | [d] => { results := [.lit (.bool false)], args := [d] }
  | _ => none }
def FailureRefusesWrongFalsely : Prop := failureRefusesRow.holds Tryd.pinned (OpenSpec.ofChange failureRefusesWrong)

/- THE SECOND FORM. 'bulk': how many values and letters a reading holds, each counted each time it is reached (what is shared counts as often as it is met; a slice's spare places count too). A statement '..UptoSaid' is the law's where the arguments, and the package variables that the reading takes, are together of bulk at most 1048576: NARROWER than '..Said'. Prove '..Said' where nothing that the law and all that it calls make is longer than what came in: it says more and counts as full. Else prove '..UptoSaid'. A law counts once. -/
mutual
def uptoBulk {H : Type} : DataW H → Nat
  | .lit (.string bytes) => bytes.length + 1
  | .lit _ => 1
  | .nil => 1
  | .ptr d => uptoBulk d + 1
  | .slice elems spare => uptoBulkAll elems + uptoBulkAll spare + 1
  | .agg parts => uptoBulkAll parts + 1
  | .iface _ d => uptoBulk d + 1
  | .map entries => uptoBulkEntries entries + 1
  | .held _ => 1
def uptoBulkAll {H : Type} : List (DataW H) → Nat
  | [] => 0
  | d :: r => uptoBulk d + uptoBulkAll r
def uptoBulkEntries {H : Type} : List (Lit × DataW H) → Nat
  | [] => 0
  | x :: r => uptoBulkEntry x + uptoBulkEntries r
def uptoBulkEntry {H : Type} : Lit × DataW H → Nat
  | (.string bytes, d) => bytes.length + uptoBulk d + 1
  | (_, d) => uptoBulk d + 1
 end
def uptoSmall : (H : Type) → List (DataW H) → Bool := fun _ ds => decide (uptoBulkAll ds ≤ 1048576)
def OpenSpec.upto (s : _root_.Go.ChangeSpec) : _root_.Go.OpenSpec := { _root_.Go.OpenSpec.ofChange s with cond := some uptoSmall }

/-- 'netverifylaw30.HeaderVariables', WHERE WHAT IT READS IS OF BULK AT MOST 1048576: true; the input reads as it did. -/
def headerVariablesUptoRow : OpenClaim := { program := "ytgglkldoclejaaadoor", sum := "0fdb58359a8092016554d3dbaaad4e463dd99b60c0ef64b1b3354d1fd7a2d2ed", func := "netverify/netverifylaw30.HeaderVariables", spec := "headerVariables", recurses := true, named := ["netverify/header.fields"], plainKeys := false, apart := false, laid := [("netverify/header.fields", laid_netverify_header_fields)], narrowed := true }
def HeaderVariablesUptoSaid : Prop := headerVariablesUptoRow.holds Tryd.pinned (OpenSpec.upto headerVariablesSpec)

/-- 'netverifylaw30.HeaderEncodes', WHERE WHAT IT READS IS OF BULK AT MOST 1048576: true; the input reads as it did. -/
def headerEncodesUptoRow : OpenClaim := { program := "ytgglkldoclejaaadoor", sum := "0fdb58359a8092016554d3dbaaad4e463dd99b60c0ef64b1b3354d1fd7a2d2ed", func := "netverify/netverifylaw30.HeaderEncodes", spec := "headerEncodes", recurses := true, named := ["netverify/header.fields"], plainKeys := false, apart := false, laid := [("netverify/header.fields", laid_netverify_header_fields)], narrowed := true }
def HeaderEncodesUptoSaid : Prop := headerEncodesUptoRow.holds Tryd.pinned (OpenSpec.upto headerEncodesSpec)

/-- 'netverifylaw30.HeaderDecodes', WHERE WHAT IT READS IS OF BULK AT MOST 1048576: true; the input reads as it did. -/
def headerDecodesUptoRow : OpenClaim := { program := "ytgglkldoclejaaadoor", sum := "0fdb58359a8092016554d3dbaaad4e463dd99b60c0ef64b1b3354d1fd7a2d2ed", func := "netverify/netverifylaw30.HeaderDecodes", spec := "headerDecodes", recurses := true, named := ["netverify/header.fields"], plainKeys := false, apart := false, laid := [("netverify/header.fields", laid_netverify_header_fields)], narrowed := true }
def HeaderDecodesUptoSaid : Prop := headerDecodesUptoRow.holds Tryd.pinned (OpenSpec.upto headerDecodesSpec)

/-- 'netverifylaw30.HeaderRanges', WHERE WHAT IT READS IS OF BULK AT MOST 1048576: true; the input reads as it did. -/
def headerRangesUptoRow : OpenClaim := { program := "ytgglkldoclejaaadoor", sum := "0fdb58359a8092016554d3dbaaad4e463dd99b60c0ef64b1b3354d1fd7a2d2ed", func := "netverify/netverifylaw30.HeaderRanges", spec := "headerRanges", recurses := true, named := ["netverify/header.fields"], plainKeys := false, apart := false, laid := [("netverify/header.fields", laid_netverify_header_fields)], narrowed := true }
def HeaderRangesUptoSaid : Prop := headerRangesUptoRow.holds Tryd.pinned (OpenSpec.upto headerRangesSpec)

/-- 'netverifylaw30.HeaderSames', WHERE WHAT IT READS IS OF BULK AT MOST 1048576: true; the input reads as it did. -/
def headerSamesUptoRow : OpenClaim := { program := "ytgglkldoclejaaadoor", sum := "0fdb58359a8092016554d3dbaaad4e463dd99b60c0ef64b1b3354d1fd7a2d2ed", func := "netverify/netverifylaw30.HeaderSames", spec := "headerSames", recurses := true, named := ["netverify/header.fields"], plainKeys := false, apart := false, laid := [("netverify/header.fields", laid_netverify_header_fields)], narrowed := true }
def HeaderSamesUptoSaid : Prop := headerSamesUptoRow.holds Tryd.pinned (OpenSpec.upto headerSamesSpec)

/-- 'netverifylaw30.HeaderWildcards', WHERE WHAT IT READS IS OF BULK AT MOST 1048576: true; the input reads as it did. -/
def headerWildcardsUptoRow : OpenClaim := { program := "ytgglkldoclejaaadoor", sum := "0fdb58359a8092016554d3dbaaad4e463dd99b60c0ef64b1b3354d1fd7a2d2ed", func := "netverify/netverifylaw30.HeaderWildcards", spec := "headerWildcards", unfollowed := true, recurses := true, named := ["netverify/header.fields"], plainKeys := false, apart := false, laid := [("netverify/header.fields", laid_netverify_header_fields)], narrowed := true }
def HeaderWildcardsUptoSaid : Prop := headerWildcardsUptoRow.holds Tryd.pinned (OpenSpec.upto headerWildcardsSpec)

/-- 'netverifylaw30.HeaderPrefixes', WHERE WHAT IT READS IS OF BULK AT MOST 1048576: true; the input reads as it did. -/
def headerPrefixesUptoRow : OpenClaim := { program := "ytgglkldoclejaaadoor", sum := "0fdb58359a8092016554d3dbaaad4e463dd99b60c0ef64b1b3354d1fd7a2d2ed", func := "netverify/netverifylaw30.HeaderPrefixes", spec := "headerPrefixes", unfollowed := true, recurses := true, named := ["netverify/header.fields"], plainKeys := false, apart := false, laid := [("netverify/header.fields", laid_netverify_header_fields)], narrowed := true }
def HeaderPrefixesUptoSaid : Prop := headerPrefixesUptoRow.holds Tryd.pinned (OpenSpec.upto headerPrefixesSpec)

/-- 'netverifylaw30.HeaderMatches', WHERE WHAT IT READS IS OF BULK AT MOST 1048576: true; the input reads as it did. -/
def headerMatchesUptoRow : OpenClaim := { program := "ytgglkldoclejaaadoor", sum := "0fdb58359a8092016554d3dbaaad4e463dd99b60c0ef64b1b3354d1fd7a2d2ed", func := "netverify/netverifylaw30.HeaderMatches", spec := "headerMatches", recurses := true, named := ["netverify/header.fields"], plainKeys := false, apart := false, laid := [("netverify/header.fields", laid_netverify_header_fields)], narrowed := true }
def HeaderMatchesUptoSaid : Prop := headerMatchesUptoRow.holds Tryd.pinned (OpenSpec.upto headerMatchesSpec)

/-- 'netverifylaw33.FailureCounts', WHERE WHAT IT READS IS OF BULK AT MOST 1048576: true; the input reads as it did. -/
def failureCountsUptoRow : OpenClaim := { program := "ytgglkldoclejaaadoor", sum := "0fdb58359a8092016554d3dbaaad4e463dd99b60c0ef64b1b3354d1fd7a2d2ed", func := "netverify/netverifylaw33.FailureCounts", spec := "failureCounts", unfollowed := true, recurses := true, named := ["netverify/header.fields"], plainKeys := false, apart := false, laid := [("netverify/header.fields", laid_netverify_header_fields)], narrowed := true }
def FailureCountsUptoSaid : Prop := failureCountsUptoRow.holds Tryd.pinned (OpenSpec.upto failureCountsSpec)

/-- 'netverifylaw33.FailureLists', WHERE WHAT IT READS IS OF BULK AT MOST 1048576: true; the input reads as it did. -/
def failureListsUptoRow : OpenClaim := { program := "ytgglkldoclejaaadoor", sum := "0fdb58359a8092016554d3dbaaad4e463dd99b60c0ef64b1b3354d1fd7a2d2ed", func := "netverify/netverifylaw33.FailureLists", spec := "failureLists", unfollowed := true, recurses := true, named := ["netverify/header.fields"], plainKeys := false, apart := false, laid := [("netverify/header.fields", laid_netverify_header_fields)], narrowed := true }
def FailureListsUptoSaid : Prop := failureListsUptoRow.holds Tryd.pinned (OpenSpec.upto failureListsSpec)

/-- 'netverifylaw33.FailureNests', WHERE WHAT IT READS IS OF BULK AT MOST 1048576: true; the input reads as it did. -/
def failureNestsUptoRow : OpenClaim := { program := "ytgglkldoclejaaadoor", sum := "0fdb58359a8092016554d3dbaaad4e463dd99b60c0ef64b1b3354d1fd7a2d2ed", func := "netverify/netverifylaw33.FailureNests", spec := "failureNests", unfollowed := true, recurses := true, named := ["netverify/header.fields"], plainKeys := false, apart := false, laid := [("netverify/header.fields", laid_netverify_header_fields)], narrowed := true }
def FailureNestsUptoSaid : Prop := failureNestsUptoRow.holds Tryd.pinned (OpenSpec.upto failureNestsSpec)

/-- 'netverifylaw33.FailureRefuses', WHERE WHAT IT READS IS OF BULK AT MOST 1048576: true; the input reads as it did. -/
def failureRefusesUptoRow : OpenClaim := { program := "ytgglkldoclejaaadoor", sum := "0fdb58359a8092016554d3dbaaad4e463dd99b60c0ef64b1b3354d1fd7a2d2ed", func := "netverify/netverifylaw33.FailureRefuses", spec := "failureRefuses", unfollowed := true, recurses := true, named := ["netverify/header.fields"], plainKeys := false, apart := false, laid := [("netverify/header.fields", laid_netverify_header_fields)], narrowed := true }
def FailureRefusesUptoSaid : Prop := failureRefusesUptoRow.holds Tryd.pinned (OpenSpec.upto failureRefusesSpec)

end Rows
end Go.Proofs.YtgglkldoclejaaaDoor
