/-
  No cell of these rows narrows 'for every input' (looked for: loops, veiled, ifaces, maps, wideKeys, modest, calm, conditions, laid).
  DERIVED. THE GIVEN ROWS OF THIS SEAT. 13 by the template 'for every input the law returns true; each argument reads behind the call as it read before'; 0 by the template 'total and deterministic' (their statements: YtifompekiockmaaTotals.lean).
  GIVEN WITH THE SEED: the statements are not yours to turn. If you find one false, say at which input.
  Laid BY PROGRAM, IN A SANDBOX (cutbox-rows.mjs): the forced cells as the released guide's own fill.sh prints them over the translation a6c2e6b4a6408eeb… (all of the seat's roots in one cut). By AI agents, Wed Nov 11 2026. No macro, syntax, notation, axiom, sorry.
-/
import Derived.Test.YtifompekiockmaaChecked
import GoSem.Claim
import GoSem.ClaimJoined
import GoSem.ClaimMapViews
import Derived.JoinedTies
import Derived.KernelRfl
namespace Go.Proofs.Ytifompekiockmaa
/- THE CELL 'sum', in the pinned program and in every row, IS THE sha256 OF THE DUMP (.gsa) THAT YtifompekiockmaaProg.lean LOADS. Nothing in Lean hashes anything: it is a label: what it is worth is what the hold of that sum in a sandbox is worth. -/
noncomputable def Try.pinned : Pinned := { name := "ytifompekiockmaa", sum := "a6c2e6b4a6408eeb312d02dd8c6d2cc799c7e9b68ff36ad0bf6518f46d832c4f", checked := Try.checked }
namespace Rows
def none {H : Type} : Left H := { results := [], args := [] }

/-- 'netverifylaw26.BddKnown': WHATEVER THE INPUT: true; the input reads as it did. -/
def bddKnownSpec : ChangeSpec := { name := "bddKnown", fn := fun _ => fun
  | [d] => { results := [.lit (.bool true)], args := [d] }
  | _ => none }
def bddKnownRow : OpenClaim := { program := "ytifompekiockmaa", sum := "a6c2e6b4a6408eeb312d02dd8c6d2cc799c7e9b68ff36ad0bf6518f46d832c4f", func := "netverify/netverifylaw26.BddKnown", spec := "bddKnown", unfollowed := true, recurses := true, plainKeys := false, apart := false }
def BddKnownSaid : Prop := bddKnownRow.holds Try.pinned (OpenSpec.ofChange bddKnownSpec)

/-- ITS FALSE NEIGHBOUR: 'it returns false'. Refute it at one input. -/
def bddKnownWrong : ChangeSpec := { name := "bddKnown", fn := fun _ => fun
  | [d] => { results := [.lit (.bool false)], args := [d] }
  | _ => none }
def BddKnownWrongFalsely : Prop := bddKnownRow.holds Try.pinned (OpenSpec.ofChange bddKnownWrong)

/-- 'netverifylaw26.BddLoads': WHATEVER THE INPUT: true; the input reads as it did. -/
def bddLoadsSpec : ChangeSpec := { name := "bddLoads", fn := fun _ => fun
  | [d1, d2] => { results := [.lit (.bool true)], args := [d1, d2] }
  | _ => none }
def bddLoadsRow : OpenClaim := { program := "ytifompekiockmaa", sum := "a6c2e6b4a6408eeb312d02dd8c6d2cc799c7e9b68ff36ad0bf6518f46d832c4f", func := "netverify/netverifylaw26.BddLoads", spec := "bddLoads", unfollowed := true, recurses := true, plainKeys := false, apart := false }
def BddLoadsSaid : Prop := bddLoadsRow.holds Try.pinned (OpenSpec.ofChange bddLoadsSpec)

/-- ITS FALSE NEIGHBOUR: 'it returns false'. Refute it at one input. -/
def bddLoadsWrong : ChangeSpec := { name := "bddLoads", fn := fun _ => fun
  | [d1, d2] => { results := [.lit (.bool false)], args := [d1, d2] }
  | _ => none }
def BddLoadsWrongFalsely : Prop := bddLoadsRow.holds Try.pinned (OpenSpec.ofChange bddLoadsWrong)

/-- 'netverifylaw26.BddCubes': WHATEVER THE INPUT: true; the input reads as it did. -/
def bddCubesSpec : ChangeSpec := { name := "bddCubes", fn := fun _ => fun
  | [d1, d2, d3] => { results := [.lit (.bool true)], args := [d1, d2, d3] }
  | _ => none }
def bddCubesRow : OpenClaim := { program := "ytifompekiockmaa", sum := "a6c2e6b4a6408eeb312d02dd8c6d2cc799c7e9b68ff36ad0bf6518f46d832c4f", func := "netverify/netverifylaw26.BddCubes", spec := "bddCubes", unfollowed := true, recurses := true, plainKeys := false, apart := false }
def BddCubesSaid : Prop := bddCubesRow.holds Try.pinned (OpenSpec.ofChange bddCubesSpec)

/-- ITS FALSE NEIGHBOUR: 'it returns false'. Refute it at one input. -/
def bddCubesWrong : ChangeSpec := { name := "bddCubes", fn := fun _ => fun
  | [d1, d2, d3] => { results := [.lit (.bool false)], args := [d1, d2, d3] }
  | _ => none }
def BddCubesWrongFalsely : Prop := bddCubesRow.holds Try.pinned (OpenSpec.ofChange bddCubesWrong)

/-- 'netverifylaw26.BddCanonical': WHATEVER THE INPUT: true; the input reads as it did. -/
def bddCanonicalSpec : ChangeSpec := { name := "bddCanonical", fn := fun _ => fun
  | [d1, d2] => { results := [.lit (.bool true)], args := [d1, d2] }
  | _ => none }
def bddCanonicalRow : OpenClaim := { program := "ytifompekiockmaa", sum := "a6c2e6b4a6408eeb312d02dd8c6d2cc799c7e9b68ff36ad0bf6518f46d832c4f", func := "netverify/netverifylaw26.BddCanonical", spec := "bddCanonical", unfollowed := true, recurses := true, plainKeys := false, apart := false }
def BddCanonicalSaid : Prop := bddCanonicalRow.holds Try.pinned (OpenSpec.ofChange bddCanonicalSpec)

/-- ITS FALSE NEIGHBOUR: 'it returns false'. Refute it at one input. -/
def bddCanonicalWrong : ChangeSpec := { name := "bddCanonical", fn := fun _ => fun
  | [d1, d2] => { results := [.lit (.bool false)], args := [d1, d2] }
  | _ => none }
def BddCanonicalWrongFalsely : Prop := bddCanonicalRow.holds Try.pinned (OpenSpec.ofChange bddCanonicalWrong)

/-- 'netverifylaw26.BddLaws': WHATEVER THE INPUT: true; the input reads as it did. -/
def bddLawsSpec : ChangeSpec := { name := "bddLaws", fn := fun _ => fun
  | [d1, d2, d3, d4, d5] => { results := [.lit (.bool true)], args := [d1, d2, d3, d4, d5] }
  | _ => none }
def bddLawsRow : OpenClaim := { program := "ytifompekiockmaa", sum := "a6c2e6b4a6408eeb312d02dd8c6d2cc799c7e9b68ff36ad0bf6518f46d832c4f", func := "netverify/netverifylaw26.BddLaws", spec := "bddLaws", unfollowed := true, recurses := true, plainKeys := false, apart := false }
def BddLawsSaid : Prop := bddLawsRow.holds Try.pinned (OpenSpec.ofChange bddLawsSpec)

/-- ITS FALSE NEIGHBOUR: 'it returns false'. Refute it at one input. -/
def bddLawsWrong : ChangeSpec := { name := "bddLaws", fn := fun _ => fun
  | [d1, d2, d3, d4, d5] => { results := [.lit (.bool false)], args := [d1, d2, d3, d4, d5] }
  | _ => none }
def BddLawsWrongFalsely : Prop := bddLawsRow.holds Try.pinned (OpenSpec.ofChange bddLawsWrong)

/-- 'netverifylaw26.BddRepeats': WHATEVER THE INPUT: true; the input reads as it did. -/
def bddRepeatsSpec : ChangeSpec := { name := "bddRepeats", fn := fun _ => fun
  | [d1, d2, d3] => { results := [.lit (.bool true)], args := [d1, d2, d3] }
  | _ => none }
def bddRepeatsRow : OpenClaim := { program := "ytifompekiockmaa", sum := "a6c2e6b4a6408eeb312d02dd8c6d2cc799c7e9b68ff36ad0bf6518f46d832c4f", func := "netverify/netverifylaw26.BddRepeats", spec := "bddRepeats", unfollowed := true, recurses := true, plainKeys := false, apart := false }
def BddRepeatsSaid : Prop := bddRepeatsRow.holds Try.pinned (OpenSpec.ofChange bddRepeatsSpec)

/-- ITS FALSE NEIGHBOUR: 'it returns false'. Refute it at one input. -/
def bddRepeatsWrong : ChangeSpec := { name := "bddRepeats", fn := fun _ => fun
  | [d1, d2, d3] => { results := [.lit (.bool false)], args := [d1, d2, d3] }
  | _ => none }
def BddRepeatsWrongFalsely : Prop := bddRepeatsRow.holds Try.pinned (OpenSpec.ofChange bddRepeatsWrong)

/-- 'netverifylaw26.BddEvaluates': WHATEVER THE INPUT: true; the input reads as it did. -/
def bddEvaluatesSpec : ChangeSpec := { name := "bddEvaluates", fn := fun _ => fun
  | [d1, d2, d3, d4] => { results := [.lit (.bool true)], args := [d1, d2, d3, d4] }
  | _ => none }
def bddEvaluatesRow : OpenClaim := { program := "ytifompekiockmaa", sum := "a6c2e6b4a6408eeb312d02dd8c6d2cc799c7e9b68ff36ad0bf6518f46d832c4f", func := "netverify/netverifylaw26.BddEvaluates", spec := "bddEvaluates", unfollowed := true, recurses := true, plainKeys := false, apart := false }
def BddEvaluatesSaid : Prop := bddEvaluatesRow.holds Try.pinned (OpenSpec.ofChange bddEvaluatesSpec)

/-- ITS FALSE NEIGHBOUR: 'it returns false'. Refute it at one input. -/
def bddEvaluatesWrong : ChangeSpec := { name := "bddEvaluates", fn := fun _ => fun
  | [d1, d2, d3, d4] => { results := [.lit (.bool false)], args := [d1, d2, d3, d4] }
  | _ => none }
def BddEvaluatesWrongFalsely : Prop := bddEvaluatesRow.holds Try.pinned (OpenSpec.ofChange bddEvaluatesWrong)

/-- 'netverifylaw26.BddAgreesWithTruthTables': WHATEVER THE INPUT: true; the input reads as it did. -/
def bddAgreesWithTruthTablesSpec : ChangeSpec := { name := "bddAgreesWithTruthTables", fn := fun _ => fun
  | [d1, d2] => { results := [.lit (.bool true)], args := [d1, d2] }
  | _ => none }
def bddAgreesWithTruthTablesRow : OpenClaim := { program := "ytifompekiockmaa", sum := "a6c2e6b4a6408eeb312d02dd8c6d2cc799c7e9b68ff36ad0bf6518f46d832c4f", func := "netverify/netverifylaw26.BddAgreesWithTruthTables", spec := "bddAgreesWithTruthTables", unfollowed := true, recurses := true, plainKeys := false, apart := false }
def BddAgreesWithTruthTablesSaid : Prop := bddAgreesWithTruthTablesRow.holds Try.pinned (OpenSpec.ofChange bddAgreesWithTruthTablesSpec)

/-- ITS FALSE NEIGHBOUR: 'it returns false'. Refute it at one input. -/
def bddAgreesWithTruthTablesWrong : ChangeSpec := { name := "bddAgreesWithTruthTables", fn := fun _ => fun
  | [d1, d2] => { results := [.lit (.bool false)], args := [d1, d2] }
  | _ => none }
def BddAgreesWithTruthTablesWrongFalsely : Prop := bddAgreesWithTruthTablesRow.holds Try.pinned (OpenSpec.ofChange bddAgreesWithTruthTablesWrong)

/-- 'netverifylaw26.BddExpands': WHATEVER THE INPUT: true; the input reads as it did. -/
def bddExpandsSpec : ChangeSpec := { name := "bddExpands", fn := fun _ => fun
  | [d1, d2, d3] => { results := [.lit (.bool true)], args := [d1, d2, d3] }
  | _ => none }
def bddExpandsRow : OpenClaim := { program := "ytifompekiockmaa", sum := "a6c2e6b4a6408eeb312d02dd8c6d2cc799c7e9b68ff36ad0bf6518f46d832c4f", func := "netverify/netverifylaw26.BddExpands", spec := "bddExpands", unfollowed := true, recurses := true, plainKeys := false, apart := false }
def BddExpandsSaid : Prop := bddExpandsRow.holds Try.pinned (OpenSpec.ofChange bddExpandsSpec)

/-- ITS FALSE NEIGHBOUR: 'it returns false'. Refute it at one input. -/
def bddExpandsWrong : ChangeSpec := { name := "bddExpands", fn := fun _ => fun
  | [d1, d2, d3] => { results := [.lit (.bool false)], args := [d1, d2, d3] }
  | _ => none }
def BddExpandsWrongFalsely : Prop := bddExpandsRow.holds Try.pinned (OpenSpec.ofChange bddExpandsWrong)

/-- 'netverifylaw26.BddShares': WHATEVER THE INPUT: true; the input reads as it did. -/
def bddSharesSpec : ChangeSpec := { name := "bddShares", fn := fun _ => fun
  | [d1, d2] => { results := [.lit (.bool true)], args := [d1, d2] }
  | _ => none }
def bddSharesRow : OpenClaim := { program := "ytifompekiockmaa", sum := "a6c2e6b4a6408eeb312d02dd8c6d2cc799c7e9b68ff36ad0bf6518f46d832c4f", func := "netverify/netverifylaw26.BddShares", spec := "bddShares", unfollowed := true, recurses := true, plainKeys := false, apart := false }
def BddSharesSaid : Prop := bddSharesRow.holds Try.pinned (OpenSpec.ofChange bddSharesSpec)

/-- ITS FALSE NEIGHBOUR: 'it returns false'. Refute it at one input. -/
def bddSharesWrong : ChangeSpec := { name := "bddShares", fn := fun _ => fun
  | [d1, d2] => { results := [.lit (.bool false)], args := [d1, d2] }
  | _ => none }
def BddSharesWrongFalsely : Prop := bddSharesRow.holds Try.pinned (OpenSpec.ofChange bddSharesWrong)

/-- 'netverifylaw26.BddShape': WHATEVER THE INPUT: true; the input reads as it did. -/
def bddShapeSpec : ChangeSpec := { name := "bddShape", fn := fun _ => fun
  | [d1, d2] => { results := [.lit (.bool true)], args := [d1, d2] }
  | _ => none }
def bddShapeRow : OpenClaim := { program := "ytifompekiockmaa", sum := "a6c2e6b4a6408eeb312d02dd8c6d2cc799c7e9b68ff36ad0bf6518f46d832c4f", func := "netverify/netverifylaw26.BddShape", spec := "bddShape", unfollowed := true, recurses := true, plainKeys := false, apart := false }
def BddShapeSaid : Prop := bddShapeRow.holds Try.pinned (OpenSpec.ofChange bddShapeSpec)

/-- ITS FALSE NEIGHBOUR: 'it returns false'. Refute it at one input. -/
def bddShapeWrong : ChangeSpec := { name := "bddShape", fn := fun _ => fun
  | [d1, d2] => { results := [.lit (.bool false)], args := [d1, d2] }
  | _ => none }
def BddShapeWrongFalsely : Prop := bddShapeRow.holds Try.pinned (OpenSpec.ofChange bddShapeWrong)

/-- 'netverifylaw26.BddSaves': WHATEVER THE INPUT: true; the input reads as it did. -/
def bddSavesSpec : ChangeSpec := { name := "bddSaves", fn := fun _ => fun
  | [d1, d2, d3] => { results := [.lit (.bool true)], args := [d1, d2, d3] }
  | _ => none }
def bddSavesRow : OpenClaim := { program := "ytifompekiockmaa", sum := "a6c2e6b4a6408eeb312d02dd8c6d2cc799c7e9b68ff36ad0bf6518f46d832c4f", func := "netverify/netverifylaw26.BddSaves", spec := "bddSaves", unfollowed := true, recurses := true, plainKeys := false, apart := false }
def BddSavesSaid : Prop := bddSavesRow.holds Try.pinned (OpenSpec.ofChange bddSavesSpec)

/-- ITS FALSE NEIGHBOUR: 'it returns false'. Refute it at one input. -/
def bddSavesWrong : ChangeSpec := { name := "bddSaves", fn := fun _ => fun
  | [d1, d2, d3] => { results := [.lit (.bool false)], args := [d1, d2, d3] }
  | _ => none }
def BddSavesWrongFalsely : Prop := bddSavesRow.holds Try.pinned (OpenSpec.ofChange bddSavesWrong)

/-- 'netverifylaw26.BddInvalid': WHATEVER THE INPUT: true; the input reads as it did. -/
def bddInvalidSpec : ChangeSpec := { name := "bddInvalid", fn := fun _ => fun
  | [d1, d2, d3, d4, d5] => { results := [.lit (.bool true)], args := [d1, d2, d3, d4, d5] }
  | _ => none }
def bddInvalidRow : OpenClaim := { program := "ytifompekiockmaa", sum := "a6c2e6b4a6408eeb312d02dd8c6d2cc799c7e9b68ff36ad0bf6518f46d832c4f", func := "netverify/netverifylaw26.BddInvalid", spec := "bddInvalid", unfollowed := true, recurses := true, plainKeys := false, apart := false }
def BddInvalidSaid : Prop := bddInvalidRow.holds Try.pinned (OpenSpec.ofChange bddInvalidSpec)

/-- ITS FALSE NEIGHBOUR: 'it returns false'. Refute it at one input. -/
def bddInvalidWrong : ChangeSpec := { name := "bddInvalid", fn := fun _ => fun
  | [d1, d2, d3, d4, d5] => { results := [.lit (.bool false)], args := [d1, d2, d3, d4, d5] }
  | _ => none }
def BddInvalidWrongFalsely : Prop := bddInvalidRow.holds Try.pinned (OpenSpec.ofChange bddInvalidWrong)

/- THE SECOND FORM. 'bulk': how many values and letters a reading holds, each counted each time it is reached (what is shared counts as often as it is met; a slice's spare places count too). A statement '..UptoSaid' is the law's where the arguments, and the package variables that the reading takes, are together of bulk at most 1048576: NARROWER than '..Said'. Prove '..Said' where nothing that the law and all that it calls make is longer than what came in: it says more and counts as full. Else prove '..UptoSaid'. A law counts once. -/
mutual
def uptoBulk {H : Type} : DataW H → Nat
  | .lit (.string bytes) => bytes.length + 1
  | .lit _ => 1
  | .nil => 1
  | .ptr d => uptoBulk d + 1
  | .slice elems spare => uptoBulkAll elems + uptoBulkAll spare + 1
  | .agg parts => uptoBulkAll parts + 1
  | .iface _ d => uptoBulk d + 1
  | .map entries => uptoBulkEntries entries + 1
  | .held _ => 1
def uptoBulkAll {H : Type} : List (DataW H) → Nat
  | [] => 0
  | d :: r => uptoBulk d + uptoBulkAll r
def uptoBulkEntries {H : Type} : List (Lit × DataW H) → Nat
  | [] => 0
  | x :: r => uptoBulkEntry x + uptoBulkEntries r
def uptoBulkEntry {H : Type} : Lit × DataW H → Nat
  | (.string bytes, d) => bytes.length + uptoBulk d + 1
  | (_, d) => uptoBulk d + 1
 end
def uptoSmall : (H : Type) → List (DataW H) → Bool := fun _ ds => decide (uptoBulkAll ds ≤ 1048576)
def OpenSpec.upto (s : _root_.Go.ChangeSpec) : _root_.Go.OpenSpec := { _root_.Go.OpenSpec.ofChange s with cond := some uptoSmall }

/-- 'netverifylaw26.BddKnown', WHERE WHAT IT READS IS OF BULK AT MOST 1048576: true; the input reads as it did. -/
def bddKnownUptoRow : OpenClaim := { program := "ytifompekiockmaa", sum := "a6c2e6b4a6408eeb312d02dd8c6d2cc799c7e9b68ff36ad0bf6518f46d832c4f", func := "netverify/netverifylaw26.BddKnown", spec := "bddKnown", unfollowed := true, recurses := true, plainKeys := false, apart := false, narrowed := true }
def BddKnownUptoSaid : Prop := bddKnownUptoRow.holds Try.pinned (OpenSpec.upto bddKnownSpec)

/-- 'netverifylaw26.BddLoads', WHERE WHAT IT READS IS OF BULK AT MOST 1048576: true; the input reads as it did. -/
def bddLoadsUptoRow : OpenClaim := { program := "ytifompekiockmaa", sum := "a6c2e6b4a6408eeb312d02dd8c6d2cc799c7e9b68ff36ad0bf6518f46d832c4f", func := "netverify/netverifylaw26.BddLoads", spec := "bddLoads", unfollowed := true, recurses := true, plainKeys := false, apart := false, narrowed := true }
def BddLoadsUptoSaid : Prop := bddLoadsUptoRow.holds Try.pinned (OpenSpec.upto bddLoadsSpec)

/-- 'netverifylaw26.BddCubes', WHERE WHAT IT READS IS OF BULK AT MOST 1048576: true; the input reads as it did. -/
def bddCubesUptoRow : OpenClaim := { program := "ytifompekiockmaa", sum := "a6c2e6b4a6408eeb312d02dd8c6d2cc799c7e9b68ff36ad0bf6518f46d832c4f", func := "netverify/netverifylaw26.BddCubes", spec := "bddCubes", unfollowed := true, recurses := true, plainKeys := false, apart := false, narrowed := true }
def BddCubesUptoSaid : Prop := bddCubesUptoRow.holds Try.pinned (OpenSpec.upto bddCubesSpec)

/-- 'netverifylaw26.BddCanonical', WHERE WHAT IT READS IS OF BULK AT MOST 1048576: true; the input reads as it did. -/
def bddCanonicalUptoRow : OpenClaim := { program := "ytifompekiockmaa", sum := "a6c2e6b4a6408eeb312d02dd8c6d2cc799c7e9b68ff36ad0bf6518f46d832c4f", func := "netverify/netverifylaw26.BddCanonical", spec := "bddCanonical", unfollowed := true, recurses := true, plainKeys := false, apart := false, narrowed := true }
def BddCanonicalUptoSaid : Prop := bddCanonicalUptoRow.holds Try.pinned (OpenSpec.upto bddCanonicalSpec)

/-- 'netverifylaw26.BddLaws', WHERE WHAT IT READS IS OF BULK AT MOST 1048576: true; the input reads as it did. -/
def bddLawsUptoRow : OpenClaim := { program := "ytifompekiockmaa", sum := "a6c2e6b4a6408eeb312d02dd8c6d2cc799c7e9b68ff36ad0bf6518f46d832c4f", func := "netverify/netverifylaw26.BddLaws", spec := "bddLaws", unfollowed := true, recurses := true, plainKeys := false, apart := false, narrowed := true }
def BddLawsUptoSaid : Prop := bddLawsUptoRow.holds Try.pinned (OpenSpec.upto bddLawsSpec)

/-- 'netverifylaw26.BddRepeats', WHERE WHAT IT READS IS OF BULK AT MOST 1048576: true; the input reads as it did. -/
def bddRepeatsUptoRow : OpenClaim := { program := "ytifompekiockmaa", sum := "a6c2e6b4a6408eeb312d02dd8c6d2cc799c7e9b68ff36ad0bf6518f46d832c4f", func := "netverify/netverifylaw26.BddRepeats", spec := "bddRepeats", unfollowed := true, recurses := true, plainKeys := false, apart := false, narrowed := true }
def BddRepeatsUptoSaid : Prop := bddRepeatsUptoRow.holds Try.pinned (OpenSpec.upto bddRepeatsSpec)

/-- 'netverifylaw26.BddEvaluates', WHERE WHAT IT READS IS OF BULK AT MOST 1048576: true; the input reads as it did. -/
def bddEvaluatesUptoRow : OpenClaim := { program := "ytifompekiockmaa", sum := "a6c2e6b4a6408eeb312d02dd8c6d2cc799c7e9b68ff36ad0bf6518f46d832c4f", func := "netverify/netverifylaw26.BddEvaluates", spec := "bddEvaluates", unfollowed := true, recurses := true, plainKeys := false, apart := false, narrowed := true }
def BddEvaluatesUptoSaid : Prop := bddEvaluatesUptoRow.holds Try.pinned (OpenSpec.upto bddEvaluatesSpec)

/-- 'netverifylaw26.BddAgreesWithTruthTables', WHERE WHAT IT READS IS OF BULK AT MOST 1048576: true; the input reads as it did. -/
def bddAgreesWithTruthTablesUptoRow : OpenClaim := { program := "ytifompekiockmaa", sum := "a6c2e6b4a6408eeb312d02dd8c6d2cc799c7e9b68ff36ad0bf6518f46d832c4f", func := "netverify/netverifylaw26.BddAgreesWithTruthTables", spec := "bddAgreesWithTruthTables", unfollowed := true, recurses := true, plainKeys := false, apart := false, narrowed := true }
def BddAgreesWithTruthTablesUptoSaid : Prop := bddAgreesWithTruthTablesUptoRow.holds Try.pinned (OpenSpec.upto bddAgreesWithTruthTablesSpec)

/-- 'netverifylaw26.BddExpands', WHERE WHAT IT READS IS OF BULK AT MOST 1048576: true; the input reads as it did. -/
def bddExpandsUptoRow : OpenClaim := { program := "ytifompekiockmaa", sum := "a6c2e6b4a6408eeb312d02dd8c6d2cc799c7e9b68ff36ad0bf6518f46d832c4f", func := "netverify/netverifylaw26.BddExpands", spec := "bddExpands", unfollowed := true, recurses := true, plainKeys := false, apart := false, narrowed := true }
def BddExpandsUptoSaid : Prop := bddExpandsUptoRow.holds Try.pinned (OpenSpec.upto bddExpandsSpec)

/-- 'netverifylaw26.BddShares', WHERE WHAT IT READS IS OF BULK AT MOST 1048576: true; the input reads as it did. -/
def bddSharesUptoRow : OpenClaim := { program := "ytifompekiockmaa", sum := "a6c2e6b4a6408eeb312d02dd8c6d2cc799c7e9b68ff36ad0bf6518f46d832c4f", func := "netverify/netverifylaw26.BddShares", spec := "bddShares", unfollowed := true, recurses := true, plainKeys := false, apart := false, narrowed := true }
def BddSharesUptoSaid : Prop := bddSharesUptoRow.holds Try.pinned (OpenSpec.upto bddSharesSpec)

/-- 'netverifylaw26.BddShape', WHERE WHAT IT READS IS OF BULK AT MOST 1048576: true; the input reads as it did. -/
def bddShapeUptoRow : OpenClaim := { program := "ytifompekiockmaa", sum := "a6c2e6b4a6408eeb312d02dd8c6d2cc799c7e9b68ff36ad0bf6518f46d832c4f", func := "netverify/netverifylaw26.BddShape", spec := "bddShape", unfollowed := true, recurses := true, plainKeys := false, apart := false, narrowed := true }
def BddShapeUptoSaid : Prop := bddShapeUptoRow.holds Try.pinned (OpenSpec.upto bddShapeSpec)

/-- 'netverifylaw26.BddSaves', WHERE WHAT IT READS IS OF BULK AT MOST 1048576: true; the input reads as it did. -/
def bddSavesUptoRow : OpenClaim := { program := "ytifompekiockmaa", sum := "a6c2e6b4a6408eeb312d02dd8c6d2cc799c7e9b68ff36ad0bf6518f46d832c4f", func := "netverify/netverifylaw26.BddSaves", spec := "bddSaves", unfollowed := true, recurses := true, plainKeys := false, apart := false, narrowed := true }
def BddSavesUptoSaid : Prop := bddSavesUptoRow.holds Try.pinned (OpenSpec.upto bddSavesSpec)

/-- 'netverifylaw26.BddInvalid', WHERE WHAT IT READS IS OF BULK AT MOST 1048576: true; the input reads as it did. -/
def bddInvalidUptoRow : OpenClaim := { program := "ytifompekiockmaa", sum := "a6c2e6b4a6408eeb312d02dd8c6d2cc799c7e9b68ff36ad0bf6518f46d832c4f", func := "netverify/netverifylaw26.BddInvalid", spec := "bddInvalid", unfollowed := true, recurses := true, plainKeys := false, apart := false, narrowed := true }
def BddInvalidUptoSaid : Prop := bddInvalidUptoRow.holds Try.pinned (OpenSpec.upto bddInvalidSpec)

end Rows
end Go.Proofs.Ytifompekiockmaa
