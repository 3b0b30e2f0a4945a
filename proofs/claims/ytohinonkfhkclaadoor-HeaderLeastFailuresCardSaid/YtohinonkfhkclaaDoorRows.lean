/-
  NARROWER THAN 'FOR EVERY INPUT', by the rows' own cells (each row's printed sentence says how): FailureLists: laid · HeaderExchanges: laid · FailureProjects: laid · HeaderRangeCounts: laid · HeaderPackets: laid · HeaderLeast: laid · HeaderLeastFailures: laid.
  DERIVED. THE GIVEN ROWS OF THIS SEAT. 7 by the template 'for every input the law returns true; each argument reads behind the call as it read before'; 0 by the template 'total and deterministic' (their statements: YtohinonkfhkclaaDoorTotals.lean).
  GIVEN WITH THE SEED: the statements are not yours to turn. If you find one false, say at which input.
  Laid BY PROGRAM, IN A SANDBOX (cutbox-rows.mjs): the forced cells as the released guide's own fill.sh prints them over the translation 1be3858687a10247… (all of the seat's roots in one cut). By AI agents, Wed Nov 11 2026. No macro, syntax, notation, axiom, sorry.
-/
import Derived.Test.YtohinonkfhkclaaDoorChecked
import GoSem.Claim
import GoSem.ClaimJoined
import GoSem.ClaimMapViews
import Derived.JoinedTies
import Derived.KernelRfl
namespace Go.Proofs.YtohinonkfhkclaaDoor
/- THE CELL 'sum', in the pinned program and in every row, IS THE sha256 OF THE DUMP (.gsa) THAT YtohinonkfhkclaaDoorProg.lean LOADS. Nothing in Lean hashes anything: it is a label: what it is worth is what the hold of that sum in a sandbox is worth. -/
noncomputable def Tryd.pinned : Pinned := { name := "ytohinonkfhkclaadoor", sum := "1be3858687a102475c75dd448ea3eed4e2459c3748f40223909f5829ed8e20cf", checked := Tryd.checked }
namespace Rows
def none {H : Type} : Left H := { results := [], args := [] }

/- WHAT THE LISTED PACKAGE-LEVEL VARIABLES READ AS WHEN THE CALL BEGINS. Each datum BY PROGRAM (the guide's laid-datum.mjs) off the statement by which the dump's own 'gosem.cut.vars' lays the variable. In a bare row this is a premise. The card (YtohinonkfhkclaaDoorCards.lean) ties it to the program's text. -/
def laid_netverify_header_fields {H : Type} : DataW H := .agg [.agg [.lit (.int .i64 0), .lit (.int .i64 32)], .agg [.lit (.int .i64 32), .lit (.int .i64 32)], .agg [.lit (.int .i64 64), .lit (.int .i64 8)], .agg [.lit (.int .i64 72), .lit (.int .i64 16)], .agg [.lit (.int .i64 88), .lit (.int .i64 16)]]

/-- 'netverifylaw33.FailureLists': WHATEVER THE INPUT: true; the input reads as it did. -/
def failureListsSpec : ChangeSpec := { name := "failureLists", fn := fun _ => fun
  | [d1, d2, d3] => { results := [.lit (.bool true)], args := [d1, d2, d3] }
  | _ => none }
def failureListsRow : OpenClaim := { program := "ytohinonkfhkclaadoor", sum := "1be3858687a102475c75dd448ea3eed4e2459c3748f40223909f5829ed8e20cf", func := "netverify/netverifylaw33.FailureLists", spec := "failureLists", unfollowed := true, recurses := true, named := ["netverify/header.fields"], plainKeys := false, apart := false, laid := [("netverify/header.fields", laid_netverify_header_fields)] }
def FailureListsSaid : Prop := failureListsRow.holds Tryd.pinned (OpenSpec.ofChange failureListsSpec)

/-- ITS FALSE NEIGHBOUR: 'it returns false'. Refute it at one input. -/
def failureListsWrong : ChangeSpec := { name := "failureLists", fn := fun _ => fun
  | [d1, d2, d3] => { results := [.lit (.bool false)], args := [d1, d2, d3] }
  | _ => none }
def FailureListsWrongFalsely : Prop := failureListsRow.holds Tryd.pinned (OpenSpec.ofChange failureListsWrong)

/-- 'netverifylaw30.HeaderExchanges': WHATEVER THE INPUT: true; the input reads as it did. -/
def headerExchangesSpec : ChangeSpec := { name := "headerExchanges", fn := fun _ => fun
  | [d1, d2, d3, d4, d5, d6] => { results := [.lit (.bool true)], args := [d1, d2, d3, d4, d5, d6] }
  | _ => none }
def headerExchangesRow : OpenClaim := { program := "ytohinonkfhkclaadoor", sum := "1be3858687a102475c75dd448ea3eed4e2459c3748f40223909f5829ed8e20cf", func := "netverify/netverifylaw30.HeaderExchanges", spec := "headerExchanges", recurses := true, named := ["netverify/header.fields"], plainKeys := false, apart := false, laid := [("netverify/header.fields", laid_netverify_header_fields)] }
def HeaderExchangesSaid : Prop := headerExchangesRow.holds Tryd.pinned (OpenSpec.ofChange headerExchangesSpec)

/-- ITS FALSE NEIGHBOUR: 'it returns false'. Refute it at one input. -/
def headerExchangesWrong : ChangeSpec := { name := "headerExchanges", fn := fun _ => fun
  | [d1, d2, d3, d4, d5, d6] => { results := [.lit (.bool false)], args := [d1, d2, d3, d4, d5, d6] }
  | _ => none }
def HeaderExchangesWrongFalsely : Prop := headerExchangesRow.holds Tryd.pinned (OpenSpec.ofChange headerExchangesWrong)

/-- 'netverifylaw33.FailureProjects': WHATEVER THE INPUT: true; the input reads as it did. -/
def failureProjectsSpec : ChangeSpec := { name := "failureProjects", fn := fun _ => fun
  | [d1, d2, d3, d4] => { results := [.lit (.bool true)], args := [d1, d2, d3, d4] }
  | _ => none }
def failureProjectsRow : OpenClaim := { program := "ytohinonkfhkclaadoor", sum := "1be3858687a102475c75dd448ea3eed4e2459c3748f40223909f5829ed8e20cf", func := "netverify/netverifylaw33.FailureProjects", spec := "failureProjects", unfollowed := true, recurses := true, named := ["netverify/header.fields"], plainKeys := false, apart := false, laid := [("netverify/header.fields", laid_netverify_header_fields)] }
def FailureProjectsSaid : Prop := failureProjectsRow.holds Tryd.pinned (OpenSpec.ofChange failureProjectsSpec)

/-- ITS FALSE NEIGHBOUR: 'it returns false'. Refute it at one input. -/
def failureProjectsWrong : ChangeSpec := { name := "failureProjects", fn := fun _ => fun
  | [d1, d2, d3, d4] => { results := [.lit (.bool false)], args := [d1, d2, d3, d4] }
  | _ => none }
def FailureProjectsWrongFalsely : Prop := failureProjectsRow.holds Tryd.pinned (OpenSpec.ofChange failureProjectsWrong)

/-- 'netverifylaw30.HeaderRangeCounts': WHATEVER THE INPUT: true; the input reads as it did. -/
def headerRangeCountsSpec : ChangeSpec := { name := "headerRangeCounts", fn := fun _ => fun
  | [d1, d2, d3] => { results := [.lit (.bool true)], args := [d1, d2, d3] }
  | _ => none }
def headerRangeCountsRow : OpenClaim := { program := "ytohinonkfhkclaadoor", sum := "1be3858687a102475c75dd448ea3eed4e2459c3748f40223909f5829ed8e20cf", func := "netverify/netverifylaw30.HeaderRangeCounts", spec := "headerRangeCounts", inPlace := ["math/bits.Add64"], unfollowed := true, recurses := true, named := ["netverify/header.fields"], plainKeys := false, apart := false, laid := [("netverify/header.fields", laid_netverify_header_fields)] }
def HeaderRangeCountsSaid : Prop := headerRangeCountsRow.holds Tryd.pinned (OpenSpec.ofChange headerRangeCountsSpec)

/-- ITS FALSE NEIGHBOUR: 'it returns false'. Refute it at one input. -/
def headerRangeCountsWrong : ChangeSpec := { name := "headerRangeCounts", fn := fun _ => fun
  | [d1, d2, d3] => { results := [.lit (.bool false)], args := [d1, d2, d3] }
  | _ => none }
def HeaderRangeCountsWrongFalsely : Prop := headerRangeCountsRow.holds Tryd.pinned (OpenSpec.ofChange headerRangeCountsWrong)

/-- 'netverifylaw30.HeaderPackets': WHATEVER THE INPUT: true; the input reads as it did. -/
def headerPacketsSpec : ChangeSpec := { name := "headerPackets", fn := fun _ => fun
  | [d1, d2] => { results := [.lit (.bool true)], args := [d1, d2] }
  | _ => none }
def headerPacketsRow : OpenClaim := { program := "ytohinonkfhkclaadoor", sum := "1be3858687a102475c75dd448ea3eed4e2459c3748f40223909f5829ed8e20cf", func := "netverify/netverifylaw30.HeaderPackets", spec := "headerPackets", inPlace := ["math/bits.Add64"], unfollowed := true, recurses := true, named := ["netverify/header.fields"], plainKeys := false, apart := false, laid := [("netverify/header.fields", laid_netverify_header_fields)] }
def HeaderPacketsSaid : Prop := headerPacketsRow.holds Tryd.pinned (OpenSpec.ofChange headerPacketsSpec)

/-- ITS FALSE NEIGHBOUR: 'it returns false'. Refute it at one input. -/
def headerPacketsWrong : ChangeSpec := { name := "headerPackets", fn := fun _ => fun
  | [d1, d2] => { results := [.lit (.bool false)], args := [d1, d2] }
  | _ => none }
def HeaderPacketsWrongFalsely : Prop := headerPacketsRow.holds Tryd.pinned (OpenSpec.ofChange headerPacketsWrong)

/-- 'netverifylaw30.HeaderLeast': WHATEVER THE INPUT: true; the input reads as it did. -/
def headerLeastSpec : ChangeSpec := { name := "headerLeast", fn := fun _ => fun
  | [d] => { results := [.lit (.bool true)], args := [d] }
  | _ => none }
def headerLeastRow : OpenClaim := { program := "ytohinonkfhkclaadoor", sum := "1be3858687a102475c75dd448ea3eed4e2459c3748f40223909f5829ed8e20cf", func := "netverify/netverifylaw30.HeaderLeast", spec := "headerLeast", inPlace := ["math/bits.Add64"], unfollowed := true, recurses := true, named := ["netverify/header.fields"], plainKeys := false, apart := false, laid := [("netverify/header.fields", laid_netverify_header_fields)] }
def HeaderLeastSaid : Prop := headerLeastRow.holds Tryd.pinned (OpenSpec.ofChange headerLeastSpec)

/-- ITS FALSE NEIGHBOUR: 'it returns false'. Refute it at one input. -/
def headerLeastWrong : ChangeSpec := { name := "headerLeast", fn := fun _ => fun
  | [d] => { results := [.lit (.bool false)], args := [d] }
  | _ => none }
def HeaderLeastWrongFalsely : Prop := headerLeastRow.holds Tryd.pinned (OpenSpec.ofChange headerLeastWrong)

/-- 'netverifylaw30.HeaderLeastFailures': WHATEVER THE INPUT: true; the input reads as it did. -/
def headerLeastFailuresSpec : ChangeSpec := { name := "headerLeastFailures", fn := fun _ => fun
  | [d1, d2, d3, d4] => { results := [.lit (.bool true)], args := [d1, d2, d3, d4] }
  | _ => none }
def headerLeastFailuresRow : OpenClaim := { program := "ytohinonkfhkclaadoor", sum := "1be3858687a102475c75dd448ea3eed4e2459c3748f40223909f5829ed8e20cf", func := "netverify/netverifylaw30.HeaderLeastFailures", spec := "headerLeastFailures", inPlace := ["math/bits.Add64"], unfollowed := true, recurses := true, named := ["netverify/header.fields"], plainKeys := false, apart := false, laid := [("netverify/header.fields", laid_netverify_header_fields)] }
def HeaderLeastFailuresSaid : Prop := headerLeastFailuresRow.holds Tryd.pinned (OpenSpec.ofChange headerLeastFailuresSpec)

/-- ITS FALSE NEIGHBOUR: 'it returns false'. Refute it at one input. -/
def headerLeastFailuresWrong : ChangeSpec := { name := "headerLeastFailures", fn := fun _ => fun
  | [d1, d2, d3, d4] => { results := [.lit (.bool false)], args := [d1, d2, d3, d4] }
  | _ => none }
def HeaderLeastFailuresWrongFalsely : Prop := headerLeastFailuresRow.holds Tryd.pinned (OpenSpec.ofChange headerLeastFailuresWrong)

/- THE SECOND FORM. 'bulk': how many values and letters a reading holds, each counted each time it is reached (what is shared counts as often as it is met; a slice's spare places count too). A statement '..UptoSaid' is the law's where the arguments, and the package variables that the reading takes, are together of bulk at most 1048576: NARROWER than '..Said'. Prove '..Said' where nothing that the law and all that it calls make is longer than what came in: it says more and counts as full. Else prove '..UptoSaid'. A law counts once. -/
mutual
def uptoBulk {H : Type} : DataW H → Nat
  | .lit (.string bytes) => bytes.length + 1
  | .lit _ => 1
  | .nil => 1
  | .ptr d => uptoBulk d + 1
  | .slice elems spare => uptoBulkAll elems + uptoBulkAll spare + 1
  | .agg parts => uptoBulkAll parts + 1
  | .iface _ d => uptoBulk d + 1
  | .map entries => uptoBulkEntries entries + 1
  | .held _ => 1
def uptoBulkAll {H : Type} : List (DataW H) → Nat
  | [] => 0
  | d :: r => uptoBulk d + uptoBulkAll r
def uptoBulkEntries {H : Type} : List (Lit × DataW H) → Nat
  | [] => 0
  | x :: r => uptoBulkEntry x + uptoBulkEntries r
def uptoBulkEntry {H : Type} : Lit × DataW H → Nat
  | (.string bytes, d) => bytes.length + uptoBulk d + 1
  | (_, d) => uptoBulk d + 1
 end
def uptoSmall : (H : Type) → List (DataW H) → Bool := fun _ ds => decide (uptoBulkAll ds ≤ 1048576)
def OpenSpec.upto (s : _root_.Go.ChangeSpec) : _root_.Go.OpenSpec := { _root_.Go.OpenSpec.ofChange s with cond := some uptoSmall }

/-- 'netverifylaw33.FailureLists', WHERE WHAT IT READS IS OF BULK AT MOST 1048576: true; the input reads as it did. -/
def failureListsUptoRow : OpenClaim := { program := "ytohinonkfhkclaadoor", sum := "1be3858687a102475c75dd448ea3eed4e2459c3748f40223909f5829ed8e20cf", func := "netverify/netverifylaw33.FailureLists", spec := "failureLists", unfollowed := true, recurses := true, named := ["netverify/header.fields"], plainKeys := false, apart := false, laid := [("netverify/header.fields", laid_netverify_header_fields)], narrowed := true }
def FailureListsUptoSaid : Prop := failureListsUptoRow.holds Tryd.pinned (OpenSpec.upto failureListsSpec)

/-- 'netverifylaw30.HeaderExchanges', WHERE WHAT IT READS IS OF BULK AT MOST 1048576: true; the input reads as it did. -/
def headerExchangesUptoRow : OpenClaim := { program := "ytohinonkfhkclaadoor", sum := "1be3858687a102475c75dd448ea3eed4e2459c3748f40223909f5829ed8e20cf", func := "netverify/netverifylaw30.HeaderExchanges", spec := "headerExchanges", recurses := true, named := ["netverify/header.fields"], plainKeys := false, apart := false, laid := [("netverify/header.fields", laid_netverify_header_fields)], narrowed := true }
def HeaderExchangesUptoSaid : Prop := headerExchangesUptoRow.holds Tryd.pinned (OpenSpec.upto headerExchangesSpec)

/-- 'netverifylaw33.FailureProjects', WHERE WHAT IT READS IS OF BULK AT MOST 1048576: true; the input reads as it did. -/
def failureProjectsUptoRow : OpenClaim := { program := "ytohinonkfhkclaadoor", sum := "1be3858687a102475c75dd448ea3eed4e2459c3748f40223909f5829ed8e20cf", func := "netverify/netverifylaw33.FailureProjects", spec := "failureProjects", unfollowed := true, recurses := true, named := ["netverify/header.fields"], plainKeys := false, apart := false, laid := [("netverify/header.fields", laid_netverify_header_fields)], narrowed := true }
def FailureProjectsUptoSaid : Prop := failureProjectsUptoRow.holds Tryd.pinned (OpenSpec.upto failureProjectsSpec)

/-- 'netverifylaw30.HeaderRangeCounts', WHERE WHAT IT READS IS OF BULK AT MOST 1048576: true; the input reads as it did. -/
def headerRangeCountsUptoRow : OpenClaim := { program := "ytohinonkfhkclaadoor", sum := "1be3858687a102475c75dd448ea3eed4e2459c3748f40223909f5829ed8e20cf", func := "netverify/netverifylaw30.HeaderRangeCounts", spec := "headerRangeCounts", inPlace := ["math/bits.Add64"], unfollowed := true, recurses := true, named := ["netverify/header.fields"], plainKeys := false, apart := false, laid := [("netverify/header.fields", laid_netverify_header_fields)], narrowed := true }
def HeaderRangeCountsUptoSaid : Prop := headerRangeCountsUptoRow.holds Tryd.pinned (OpenSpec.upto headerRangeCountsSpec)

/-- 'netverifylaw30.HeaderPackets', WHERE WHAT IT READS IS OF BULK AT MOST 1048576: true; the input reads as it did. -/
def headerPacketsUptoRow : OpenClaim := { program := "ytohinonkfhkclaadoor", sum := "1be3858687a102475c75dd448ea3eed4e2459c3748f40223909f5829ed8e20cf", func := "netverify/netverifylaw30.HeaderPackets", spec := "headerPackets", inPlace := ["math/bits.Add64"], unfollowed := true, recurses := true, named := ["netverify/header.fields"], plainKeys := false, apart := false, laid := [("netverify/header.fields", laid_netverify_header_fields)], narrowed := true }
def HeaderPacketsUptoSaid : Prop := headerPacketsUptoRow.holds Tryd.pinned (OpenSpec.upto headerPacketsSpec)

/-- 'netverifylaw30.HeaderLeast', WHERE WHAT IT READS IS OF BULK AT MOST 1048576: true; the input reads as it did. -/
def headerLeastUptoRow : OpenClaim := { program := "ytohinonkfhkclaadoor", sum := "1be3858687a102475c75dd448ea3eed4e2459c3748f40223909f5829ed8e20cf", func := "netverify/netverifylaw30.HeaderLeast", spec := "headerLeast", inPlace := ["math/bits.Add64"], unfollowed := true, recurses := true, named := ["netverify/header.fields"], plainKeys := false, apart := false, laid := [("netverify/header.fields", laid_netverify_header_fields)], narrowed := true }
def HeaderLeastUptoSaid : Prop := headerLeastUptoRow.holds Tryd.pinned (OpenSpec.upto headerLeastSpec)

/-- 'netverifylaw30.HeaderLeastFailures', WHERE WHAT IT READS IS OF BULK AT MOST 1048576: true; the input reads as it did. -/
def headerLeastFailuresUptoRow : OpenClaim := { program := "ytohinonkfhkclaadoor", sum := "1be3858687a102475c75dd448ea3eed4e2459c3748f40223909f5829ed8e20cf", func := "netverify/netverifylaw30.HeaderLeastFailures", spec := "headerLeastFailures", inPlace := ["math/bits.Add64"], unfollowed := true, recurses := true, named := ["netverify/header.fields"], plainKeys := false, apart := false, laid := [("netverify/header.fields", laid_netverify_header_fields)], narrowed := true }
def HeaderLeastFailuresUptoSaid : Prop := headerLeastFailuresUptoRow.holds Tryd.pinned (OpenSpec.upto headerLeastFailuresSpec)

end Rows
end Go.Proofs.YtohinonkfhkclaaDoor
