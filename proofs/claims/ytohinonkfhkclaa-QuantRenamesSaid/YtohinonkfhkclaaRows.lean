/-
  No cell of these rows narrows 'for every input' (looked for: loops, veiled, ifaces, maps, wideKeys, modest, calm, conditions, laid).
  DERIVED. THE GIVEN ROWS OF THIS SEAT. 9 by the template 'for every input the law returns true; each argument reads behind the call as it read before'; 0 by the template 'total and deterministic' (their statements: YtohinonkfhkclaaTotals.lean).
  GIVEN WITH THE SEED: the statements are not yours to turn. If you find one false, say at which input.
  Laid BY PROGRAM, IN A SANDBOX (cutbox-rows.mjs): the forced cells as the released guide's own fill.sh prints them over the translation 4259cb51141b9397… (all of the seat's roots in one cut). By AI agents, Wed Nov 11 2026. No macro, syntax, notation, axiom, sorry.
-/
import Derived.Test.YtohinonkfhkclaaChecked
import GoSem.Claim
import GoSem.ClaimJoined
import GoSem.ClaimMapViews
import Derived.JoinedTies
import Derived.KernelRfl
namespace Go.Proofs.Ytohinonkfhkclaa
/- THE CELL 'sum', in the pinned program and in every row, IS THE sha256 OF THE DUMP (.gsa) THAT YtohinonkfhkclaaProg.lean LOADS. Nothing in Lean hashes anything: it is a label: what it is worth is what the hold of that sum in a sandbox is worth. -/
noncomputable def Try.pinned : Pinned := { name := "ytohinonkfhkclaa", sum := "4259cb51141b939791c9e34a87783ceae580072831fcf91a88fb46f8cf95d407", checked := Try.checked }
namespace Rows
def none {H : Type} : Left H := { results := [], args := [] }

/-- 'netverifylaw27.QuantCountsMany': WHATEVER THE INPUT: true; the input reads as it did. -/
def quantCountsManySpec : ChangeSpec := { name := "quantCountsMany", fn := fun _ => fun
  | [d1, d2, d3] => { results := [.lit (.bool true)], args := [d1, d2, d3] }
  | _ => none }
def quantCountsManyRow : OpenClaim := { program := "ytohinonkfhkclaa", sum := "4259cb51141b939791c9e34a87783ceae580072831fcf91a88fb46f8cf95d407", func := "netverify/netverifylaw27.QuantCountsMany", spec := "quantCountsMany", inPlace := ["math/bits.Add64"], unfollowed := true, recurses := true, plainKeys := false, apart := false }
def QuantCountsManySaid : Prop := quantCountsManyRow.holds Try.pinned (OpenSpec.ofChange quantCountsManySpec)

/-- ITS FALSE NEIGHBOUR: 'it returns false'. Refute it at one input. -/
def quantCountsManyWrong : ChangeSpec := { name := "quantCountsMany", fn := fun _ => fun
  | [d1, d2, d3] => { results := [.lit (.bool false)], args := [d1, d2, d3] }
  | _ => none }
def QuantCountsManyWrongFalsely : Prop := quantCountsManyRow.holds Try.pinned (OpenSpec.ofChange quantCountsManyWrong)

/-- 'netverifylaw27.QuantImages': WHATEVER THE INPUT: true; the input reads as it did. -/
def quantImagesSpec : ChangeSpec := { name := "quantImages", fn := fun _ => fun
  | [d1, d2] => { results := [.lit (.bool true)], args := [d1, d2] }
  | _ => none }
def quantImagesRow : OpenClaim := { program := "ytohinonkfhkclaa", sum := "4259cb51141b939791c9e34a87783ceae580072831fcf91a88fb46f8cf95d407", func := "netverify/netverifylaw27.QuantImages", spec := "quantImages", inPlace := ["math/bits.Add64"], unfollowed := true, recurses := true, plainKeys := false, apart := false }
def QuantImagesSaid : Prop := quantImagesRow.holds Try.pinned (OpenSpec.ofChange quantImagesSpec)

/-- ITS FALSE NEIGHBOUR: 'it returns false'. Refute it at one input. -/
def quantImagesWrong : ChangeSpec := { name := "quantImages", fn := fun _ => fun
  | [d1, d2] => { results := [.lit (.bool false)], args := [d1, d2] }
  | _ => none }
def QuantImagesWrongFalsely : Prop := quantImagesRow.holds Try.pinned (OpenSpec.ofChange quantImagesWrong)

/-- 'netverifylaw27.QuantInvalid': WHATEVER THE INPUT: true; the input reads as it did. -/
def quantInvalidSpec : ChangeSpec := { name := "quantInvalid", fn := fun _ => fun
  | [d1, d2] => { results := [.lit (.bool true)], args := [d1, d2] }
  | _ => none }
def quantInvalidRow : OpenClaim := { program := "ytohinonkfhkclaa", sum := "4259cb51141b939791c9e34a87783ceae580072831fcf91a88fb46f8cf95d407", func := "netverify/netverifylaw27.QuantInvalid", spec := "quantInvalid", inPlace := ["math/bits.Add64"], unfollowed := true, recurses := true, plainKeys := false, apart := false }
def QuantInvalidSaid : Prop := quantInvalidRow.holds Try.pinned (OpenSpec.ofChange quantInvalidSpec)

/-- ITS FALSE NEIGHBOUR: 'it returns false'. Refute it at one input. -/
def quantInvalidWrong : ChangeSpec := { name := "quantInvalid", fn := fun _ => fun
  | [d1, d2] => { results := [.lit (.bool false)], args := [d1, d2] }
  | _ => none }
def QuantInvalidWrongFalsely : Prop := quantInvalidRow.holds Try.pinned (OpenSpec.ofChange quantInvalidWrong)

/-- 'netverifylaw27.QuantPermutes': WHATEVER THE INPUT: true; the input reads as it did. -/
def quantPermutesSpec : ChangeSpec := { name := "quantPermutes", fn := fun _ => fun
  | [d1, d2, d3, d4, d5] => { results := [.lit (.bool true)], args := [d1, d2, d3, d4, d5] }
  | _ => none }
def quantPermutesRow : OpenClaim := { program := "ytohinonkfhkclaa", sum := "4259cb51141b939791c9e34a87783ceae580072831fcf91a88fb46f8cf95d407", func := "netverify/netverifylaw27.QuantPermutes", spec := "quantPermutes", inPlace := ["math/bits.Add64"], unfollowed := true, recurses := true, plainKeys := false, apart := false }
def QuantPermutesSaid : Prop := quantPermutesRow.holds Try.pinned (OpenSpec.ofChange quantPermutesSpec)

/-- ITS FALSE NEIGHBOUR: 'it returns false'. Refute it at one input. -/
def quantPermutesWrong : ChangeSpec := { name := "quantPermutes", fn := fun _ => fun
  | [d1, d2, d3, d4, d5] => { results := [.lit (.bool false)], args := [d1, d2, d3, d4, d5] }
  | _ => none }
def QuantPermutesWrongFalsely : Prop := quantPermutesRow.holds Try.pinned (OpenSpec.ofChange quantPermutesWrong)

/-- 'netverifylaw27.QuantCounts': WHATEVER THE INPUT: true; the input reads as it did. -/
def quantCountsSpec : ChangeSpec := { name := "quantCounts", fn := fun _ => fun
  | [d1, d2, d3, d4] => { results := [.lit (.bool true)], args := [d1, d2, d3, d4] }
  | _ => none }
def quantCountsRow : OpenClaim := { program := "ytohinonkfhkclaa", sum := "4259cb51141b939791c9e34a87783ceae580072831fcf91a88fb46f8cf95d407", func := "netverify/netverifylaw27.QuantCounts", spec := "quantCounts", inPlace := ["math/bits.Add64"], unfollowed := true, recurses := true, plainKeys := false, apart := false }
def QuantCountsSaid : Prop := quantCountsRow.holds Try.pinned (OpenSpec.ofChange quantCountsSpec)

/-- ITS FALSE NEIGHBOUR: 'it returns false'. Refute it at one input. -/
def quantCountsWrong : ChangeSpec := { name := "quantCounts", fn := fun _ => fun
  | [d1, d2, d3, d4] => { results := [.lit (.bool false)], args := [d1, d2, d3, d4] }
  | _ => none }
def QuantCountsWrongFalsely : Prop := quantCountsRow.holds Try.pinned (OpenSpec.ofChange quantCountsWrong)

/-- 'netverifylaw27.QuantDuals': WHATEVER THE INPUT: true; the input reads as it did. -/
def quantDualsSpec : ChangeSpec := { name := "quantDuals", fn := fun _ => fun
  | [d1, d2, d3, d4, d5, d6] => { results := [.lit (.bool true)], args := [d1, d2, d3, d4, d5, d6] }
  | _ => none }
def quantDualsRow : OpenClaim := { program := "ytohinonkfhkclaa", sum := "4259cb51141b939791c9e34a87783ceae580072831fcf91a88fb46f8cf95d407", func := "netverify/netverifylaw27.QuantDuals", spec := "quantDuals", inPlace := ["math/bits.Add64"], unfollowed := true, recurses := true, plainKeys := false, apart := false }
def QuantDualsSaid : Prop := quantDualsRow.holds Try.pinned (OpenSpec.ofChange quantDualsSpec)

/-- ITS FALSE NEIGHBOUR: 'it returns false'. Refute it at one input. -/
def quantDualsWrong : ChangeSpec := { name := "quantDuals", fn := fun _ => fun
  | [d1, d2, d3, d4, d5, d6] => { results := [.lit (.bool false)], args := [d1, d2, d3, d4, d5, d6] }
  | _ => none }
def QuantDualsWrongFalsely : Prop := quantDualsRow.holds Try.pinned (OpenSpec.ofChange quantDualsWrong)

/-- 'netverifylaw27.QuantRenames': WHATEVER THE INPUT: true; the input reads as it did. -/
def quantRenamesSpec : ChangeSpec := { name := "quantRenames", fn := fun _ => fun
  | [d1, d2, d3, d4, d5] => { results := [.lit (.bool true)], args := [d1, d2, d3, d4, d5] }
  | _ => none }
def quantRenamesRow : OpenClaim := { program := "ytohinonkfhkclaa", sum := "4259cb51141b939791c9e34a87783ceae580072831fcf91a88fb46f8cf95d407", func := "netverify/netverifylaw27.QuantRenames", spec := "quantRenames", inPlace := ["math/bits.Add64"], unfollowed := true, recurses := true, plainKeys := false, apart := false }
def QuantRenamesSaid : Prop := quantRenamesRow.holds Try.pinned (OpenSpec.ofChange quantRenamesSpec)

/-- ITS FALSE NEIGHBOUR: 'it returns false'. Refute it at one input. -/
def quantRenamesWrong : ChangeSpec := { name := "quantRenames", fn := fun _ => fun
  | [d1, d2, d3, d4, d5] => { results := [.lit (.bool false)], args := [d1, d2, d3, d4, d5] }
  | _ => none }
def QuantRenamesWrongFalsely : Prop := quantRenamesRow.holds Try.pinned (OpenSpec.ofChange quantRenamesWrong)

/-- 'netverifylaw27.QuantTables': WHATEVER THE INPUT: true; the input reads as it did. -/
def quantTablesSpec : ChangeSpec := { name := "quantTables", fn := fun _ => fun
  | [d1, d2, d3, d4, d5] => { results := [.lit (.bool true)], args := [d1, d2, d3, d4, d5] }
  | _ => none }
def quantTablesRow : OpenClaim := { program := "ytohinonkfhkclaa", sum := "4259cb51141b939791c9e34a87783ceae580072831fcf91a88fb46f8cf95d407", func := "netverify/netverifylaw27.QuantTables", spec := "quantTables", inPlace := ["math/bits.Add64"], unfollowed := true, recurses := true, plainKeys := false, apart := false }
def QuantTablesSaid : Prop := quantTablesRow.holds Try.pinned (OpenSpec.ofChange quantTablesSpec)

/-- ITS FALSE NEIGHBOUR: 'it returns false'. Refute it at one input. -/
def quantTablesWrong : ChangeSpec := { name := "quantTables", fn := fun _ => fun
  | [d1, d2, d3, d4, d5] => { results := [.lit (.bool false)], args := [d1, d2, d3, d4, d5] }
  | _ => none }
def QuantTablesWrongFalsely : Prop := quantTablesRow.holds Try.pinned (OpenSpec.ofChange quantTablesWrong)

/-- 'netverifylaw27.QuantComposes': WHATEVER THE INPUT: true; the input reads as it did. -/
def quantComposesSpec : ChangeSpec := { name := "quantComposes", fn := fun _ => fun
  | [d1, d2, d3, d4, d5] => { results := [.lit (.bool true)], args := [d1, d2, d3, d4, d5] }
  | _ => none }
def quantComposesRow : OpenClaim := { program := "ytohinonkfhkclaa", sum := "4259cb51141b939791c9e34a87783ceae580072831fcf91a88fb46f8cf95d407", func := "netverify/netverifylaw27.QuantComposes", spec := "quantComposes", inPlace := ["math/bits.Add64"], unfollowed := true, recurses := true, plainKeys := false, apart := false }
def QuantComposesSaid : Prop := quantComposesRow.holds Try.pinned (OpenSpec.ofChange quantComposesSpec)

/-- ITS FALSE NEIGHBOUR: 'it returns false'. Refute it at one input. -/
def quantComposesWrong : ChangeSpec := { name := "quantComposes", fn := fun _ => fun
  | [d1, d2, d3, d4, d5] => { results := [.lit (.bool false)], args := [d1, d2, d3, d4, d5] }
  | _ => none }
def QuantComposesWrongFalsely : Prop := quantComposesRow.holds Try.pinned (OpenSpec.ofChange quantComposesWrong)

/- THE SECOND FORM. 'bulk': how many values and letters a reading holds, each counted each time it is reached (what is shared counts as often as it is met; a slice's spare places count too). A statement '..UptoSaid' is the law's where the arguments, and the package variables that the reading takes, are together of bulk at most 1048576: NARROWER than '..Said'. Prove '..Said' where nothing that the law and all that it calls make is longer than what came in: it says more and counts as full. Else prove '..UptoSaid'. A law counts once. -/
mutual
def uptoBulk {H : Type} : DataW H → Nat
  | .lit (.string bytes) => bytes.length + 1
  | .lit _ => 1
  | .nil => 1
  | .ptr d => uptoBulk d + 1
  | .slice elems spare => uptoBulkAll elems + uptoBulkAll spare + 1
  | .agg parts => uptoBulkAll parts + 1
  | .iface _ d => uptoBulk d + 1
  | .map entries => uptoBulkEntries entries + 1
  | .held _ => 1
def uptoBulkAll {H : Type} : List (DataW H) → Nat
  | [] => 0
  | d :: r => uptoBulk d + uptoBulkAll r
def uptoBulkEntries {H : Type} : List (Lit × DataW H) → Nat
  | [] => 0
  | x :: r => uptoBulkEntry x + uptoBulkEntries r
def uptoBulkEntry {H : Type} : Lit × DataW H → Nat
  | (.string bytes, d) => bytes.length + uptoBulk d + 1
  | (_, d) => uptoBulk d + 1
 end
def uptoSmall : (H : Type) → List (DataW H) → Bool := fun _ ds => decide (uptoBulkAll ds ≤ 1048576)
def OpenSpec.upto (s : _root_.Go.ChangeSpec) : _root_.Go.OpenSpec := { _root_.Go.OpenSpec.ofChange s with cond := some uptoSmall }

/-- 'netverifylaw27.QuantCountsMany', WHERE WHAT IT READS IS OF BULK AT MOST 1048576: true; the input reads as it did. -/
def quantCountsManyUptoRow : OpenClaim := { program := "ytohinonkfhkclaa", sum := "4259cb51141b939791c9e34a87783ceae580072831fcf91a88fb46f8cf95d407", func := "netverify/netverifylaw27.QuantCountsMany", spec := "quantCountsMany", inPlace := ["math/bits.Add64"], unfollowed := true, recurses := true, plainKeys := false, apart := false, narrowed := true }
def QuantCountsManyUptoSaid : Prop := quantCountsManyUptoRow.holds Try.pinned (OpenSpec.upto quantCountsManySpec)

/-- 'netverifylaw27.QuantImages', WHERE WHAT IT READS IS OF BULK AT MOST 1048576: true; the input reads as it did. -/
def quantImagesUptoRow : OpenClaim := { program := "ytohinonkfhkclaa", sum := "4259cb51141b939791c9e34a87783ceae580072831fcf91a88fb46f8cf95d407", func := "netverify/netverifylaw27.QuantImages", spec := "quantImages", inPlace := ["math/bits.Add64"], unfollowed := true, recurses := true, plainKeys := false, apart := false, narrowed := true }
def QuantImagesUptoSaid : Prop := quantImagesUptoRow.holds Try.pinned (OpenSpec.upto quantImagesSpec)

/-- 'netverifylaw27.QuantInvalid', WHERE WHAT IT READS IS OF BULK AT MOST 1048576: true; the input reads as it did. -/
def quantInvalidUptoRow : OpenClaim := { program := "ytohinonkfhkclaa", sum := "4259cb51141b939791c9e34a87783ceae580072831fcf91a88fb46f8cf95d407", func := "netverify/netverifylaw27.QuantInvalid", spec := "quantInvalid", inPlace := ["math/bits.Add64"], unfollowed := true, recurses := true, plainKeys := false, apart := false, narrowed := true }
def QuantInvalidUptoSaid : Prop := quantInvalidUptoRow.holds Try.pinned (OpenSpec.upto quantInvalidSpec)

/-- 'netverifylaw27.QuantPermutes', WHERE WHAT IT READS IS OF BULK AT MOST 1048576: true; the input reads as it did. -/
def quantPermutesUptoRow : OpenClaim := { program := "ytohinonkfhkclaa", sum := "4259cb51141b939791c9e34a87783ceae580072831fcf91a88fb46f8cf95d407", func := "netverify/netverifylaw27.QuantPermutes", spec := "quantPermutes", inPlace := ["math/bits.Add64"], unfollowed := true, recurses := true, plainKeys := false, apart := false, narrowed := true }
def QuantPermutesUptoSaid : Prop := quantPermutesUptoRow.holds Try.pinned (OpenSpec.upto quantPermutesSpec)

/-- 'netverifylaw27.QuantCounts', WHERE WHAT IT READS IS OF BULK AT MOST 1048576: true; the input reads as it did. -/
def quantCountsUptoRow : OpenClaim := { program := "ytohinonkfhkclaa", sum := "4259cb51141b939791c9e34a87783ceae580072831fcf91a88fb46f8cf95d407", func := "netverify/netverifylaw27.QuantCounts", spec := "quantCounts", inPlace := ["math/bits.Add64"], unfollowed := true, recurses := true, plainKeys := false, apart := false, narrowed := true }
def QuantCountsUptoSaid : Prop := quantCountsUptoRow.holds Try.pinned (OpenSpec.upto quantCountsSpec)

/-- 'netverifylaw27.QuantDuals', WHERE WHAT IT READS IS OF BULK AT MOST 1048576: true; the input reads as it did. -/
def quantDualsUptoRow : OpenClaim := { program := "ytohinonkfhkclaa", sum := "4259cb51141b939791c9e34a87783ceae580072831fcf91a88fb46f8cf95d407", func := "netverify/netverifylaw27.QuantDuals", spec := "quantDuals", inPlace := ["math/bits.Add64"], unfollowed := true, recurses := true, plainKeys := false, apart := false, narrowed := true }
def QuantDualsUptoSaid : Prop := quantDualsUptoRow.holds Try.pinned (OpenSpec.upto quantDualsSpec)

/-- 'netverifylaw27.QuantRenames', WHERE WHAT IT READS IS OF BULK AT MOST 1048576: true; the input reads as it did. -/
def quantRenamesUptoRow : OpenClaim := { program := "ytohinonkfhkclaa", sum := "4259cb51141b939791c9e34a87783ceae580072831fcf91a88fb46f8cf95d407", func := "netverify/netverifylaw27.QuantRenames", spec := "quantRenames", inPlace := ["math/bits.Add64"], unfollowed := true, recurses := true, plainKeys := false, apart := false, narrowed := true }
def QuantRenamesUptoSaid : Prop := quantRenamesUptoRow.holds Try.pinned (OpenSpec.upto quantRenamesSpec)

/-- 'netverifylaw27.QuantTables', WHERE WHAT IT READS IS OF BULK AT MOST 1048576: true; the input reads as it did. -/
def quantTablesUptoRow : OpenClaim := { program := "ytohinonkfhkclaa", sum := "4259cb51141b939791c9e34a87783ceae580072831fcf91a88fb46f8cf95d407", func := "netverify/netverifylaw27.QuantTables", spec := "quantTables", inPlace := ["math/bits.Add64"], unfollowed := true, recurses := true, plainKeys := false, apart := false, narrowed := true }
def QuantTablesUptoSaid : Prop := quantTablesUptoRow.holds Try.pinned (OpenSpec.upto quantTablesSpec)

/-- 'netverifylaw27.QuantComposes', WHERE WHAT IT READS IS OF BULK AT MOST 1048576: true; the input reads as it did. -/
def quantComposesUptoRow : OpenClaim := { program := "ytohinonkfhkclaa", sum := "4259cb51141b939791c9e34a87783ceae580072831fcf91a88fb46f8cf95d407", func := "netverify/netverifylaw27.QuantComposes", spec := "quantComposes", inPlace := ["math/bits.Add64"], unfollowed := true, recurses := true, plainKeys := false, apart := false, narrowed := true }
def QuantComposesUptoSaid : Prop := quantComposesUptoRow.holds Try.pinned (OpenSpec.upto quantComposesSpec)

end Rows
end Go.Proofs.Ytohinonkfhkclaa
