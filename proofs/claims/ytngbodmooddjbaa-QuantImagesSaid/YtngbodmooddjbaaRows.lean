/-
  No cell of these rows narrows 'for every input' (looked for: loops, veiled, ifaces, maps, wideKeys, modest, calm, conditions, laid).
  DERIVED. THE GIVEN ROWS OF THIS SEAT. 8 by the template 'for every input the law returns true; each argument reads behind the call as it read before'; 0 by the template 'total and deterministic' (their statements: YtngbodmooddjbaaTotals.lean).
  GIVEN WITH THE SEED: the statements are not yours to turn. If you find one false, say at which input.
  Laid BY PROGRAM, IN A SANDBOX (cutbox-rows.mjs): the forced cells as the released guide's own fill.sh prints them over the translation eadb2b2a3071d1b2… (all of the seat's roots in one cut). By AI agents, Wed Nov 11 2026. No macro, syntax, notation, axiom, sorry.
-/
import Derived.Test.YtngbodmooddjbaaChecked
import GoSem.Claim
import GoSem.ClaimJoined
import GoSem.ClaimMapViews
import Derived.JoinedTies
import Derived.KernelRfl
namespace Go.Proofs.Ytngbodmooddjbaa
/- THE CELL 'sum', in the pinned program and in every row, IS THE sha256 OF THE DUMP (.gsa) THAT YtngbodmooddjbaaProg.lean LOADS. Nothing in Lean hashes anything: it is a label: what it is worth is what the hold of that sum in a sandbox is worth. -/
noncomputable def Try.pinned : Pinned := { name := "ytngbodmooddjbaa", sum := "eadb2b2a3071d1b221b4a97abba82be62424f2bdc6b395433192a8c424e36c30", checked := Try.checked }
namespace Rows
def none {H : Type} : Left H := { results := [], args := [] }

/-- 'netverifylaw27.QuantImages': WHATEVER THE INPUT: true; the input reads as it did. -/
def quantImagesSpec : ChangeSpec := { name := "quantImages", fn := fun _ => fun
  | [d1, d2] => { results := [.lit (.bool true)], args := [d1, d2] }
  | _ => none }
def quantImagesRow : OpenClaim := { program := "ytngbodmooddjbaa", sum := "eadb2b2a3071d1b221b4a97abba82be62424f2bdc6b395433192a8c424e36c30", func := "netverify/netverifylaw27.QuantImages", spec := "quantImages", inPlace := ["math/bits.Add64"], unfollowed := true, recurses := true, plainKeys := false, apart := false }
def QuantImagesSaid : Prop := quantImagesRow.holds Try.pinned (OpenSpec.ofChange quantImagesSpec)

/-- ITS FALSE NEIGHBOUR: 'it returns false'. Refute it at one input. -/
def quantImagesWrong : ChangeSpec := { name := "quantImages", fn := fun _ => fun
  | [d1, d2] => { results := [.lit (.bool false)], args := [d1, d2] }
  | _ => none }
def QuantImagesWrongFalsely : Prop := quantImagesRow.holds Try.pinned (OpenSpec.ofChange quantImagesWrong)

/-- 'netverifylaw27.QuantCounts': WHATEVER THE INPUT: true; the input reads as it did. -/
def quantCountsSpec : ChangeSpec := { name := "quantCounts", fn := fun _ => fun
  | [d1, d2, d3, d4] => { results := [.lit (.bool true)], args := [d1, d2, d3, d4] }
  | _ => none }
def quantCountsRow : OpenClaim := { program := "ytngbodmooddjbaa", sum := "eadb2b2a3071d1b221b4a97abba82be62424f2bdc6b395433192a8c424e36c30", func := "netverify/netverifylaw27.QuantCounts", spec := "quantCounts", inPlace := ["math/bits.Add64"], unfollowed := true, recurses := true, plainKeys := false, apart := false }
def QuantCountsSaid : Prop := quantCountsRow.holds Try.pinned (OpenSpec.ofChange quantCountsSpec)

/-- ITS FALSE NEIGHBOUR: 'it returns false'. Refute it at one input. -/
def quantCountsWrong : ChangeSpec := { name := "quantCounts", fn := fun _ => fun
  | [d1, d2, d3, d4] => { results := [.lit (.bool false)], args := [d1, d2, d3, d4] }
  | _ => none }
def QuantCountsWrongFalsely : Prop := quantCountsRow.holds Try.pinned (OpenSpec.ofChange quantCountsWrong)

/-- 'netverifylaw27.QuantDuals': WHATEVER THE INPUT: true; the input reads as it did. -/
def quantDualsSpec : ChangeSpec := { name := "quantDuals", fn := fun _ => fun
  | [d1, d2, d3, d4, d5, d6] => { results := [.lit (.bool true)], args := [d1, d2, d3, d4, d5, d6] }
  | _ => none }
def quantDualsRow : OpenClaim := { program := "ytngbodmooddjbaa", sum := "eadb2b2a3071d1b221b4a97abba82be62424f2bdc6b395433192a8c424e36c30", func := "netverify/netverifylaw27.QuantDuals", spec := "quantDuals", inPlace := ["math/bits.Add64"], unfollowed := true, recurses := true, plainKeys := false, apart := false }
def QuantDualsSaid : Prop := quantDualsRow.holds Try.pinned (OpenSpec.ofChange quantDualsSpec)

/-- ITS FALSE NEIGHBOUR: 'it returns false'. Refute it at one input. -/
def quantDualsWrong : ChangeSpec := { name := "quantDuals", fn := fun _ => fun
  | [d1, d2, d3, d4, d5, d6] => { results := [.lit (.bool false)], args := [d1, d2, d3, d4, d5, d6] }
  | _ => none }
def QuantDualsWrongFalsely : Prop := quantDualsRow.holds Try.pinned (OpenSpec.ofChange quantDualsWrong)

/-- 'netverifylaw28.ReorderPairs': WHATEVER THE INPUT: true; the input reads as it did. -/
def reorderPairsSpec : ChangeSpec := { name := "reorderPairs", fn := fun _ => fun
  | [d] => { results := [.lit (.bool true)], args := [d] }
  | _ => none }
def reorderPairsRow : OpenClaim := { program := "ytngbodmooddjbaa", sum := "eadb2b2a3071d1b221b4a97abba82be62424f2bdc6b395433192a8c424e36c30", func := "netverify/netverifylaw28.ReorderPairs", spec := "reorderPairs", unfollowed := true, recurses := true, plainKeys := false, apart := false }
def ReorderPairsSaid : Prop := reorderPairsRow.holds Try.pinned (OpenSpec.ofChange reorderPairsSpec)

/-- ITS FALSE NEIGHBOUR: 'it returns false'. Refute it at one input. -/
def reorderPairsWrong : ChangeSpec := { name := "reorderPairs", fn := fun _ => fun
  | [d] => { results := [.lit (.bool false)], args := [d] }
  | _ => none }
def ReorderPairsWrongFalsely : Prop := reorderPairsRow.holds Try.pinned (OpenSpec.ofChange reorderPairsWrong)

/-- 'netverifylaw28.ReorderUndoes': WHATEVER THE INPUT: true; the input reads as it did. -/
def reorderUndoesSpec : ChangeSpec := { name := "reorderUndoes", fn := fun _ => fun
  | [d1, d2, d3] => { results := [.lit (.bool true)], args := [d1, d2, d3] }
  | _ => none }
def reorderUndoesRow : OpenClaim := { program := "ytngbodmooddjbaa", sum := "eadb2b2a3071d1b221b4a97abba82be62424f2bdc6b395433192a8c424e36c30", func := "netverify/netverifylaw28.ReorderUndoes", spec := "reorderUndoes", unfollowed := true, recurses := true, plainKeys := false, apart := false }
def ReorderUndoesSaid : Prop := reorderUndoesRow.holds Try.pinned (OpenSpec.ofChange reorderUndoesSpec)

/-- ITS FALSE NEIGHBOUR: 'it returns false'. Refute it at one input. -/
def reorderUndoesWrong : ChangeSpec := { name := "reorderUndoes", fn := fun _ => fun
  | [d1, d2, d3] => { results := [.lit (.bool false)], args := [d1, d2, d3] }
  | _ => none }
def ReorderUndoesWrongFalsely : Prop := reorderUndoesRow.holds Try.pinned (OpenSpec.ofChange reorderUndoesWrong)

/-- 'netverifylaw28.ReorderRefuses': WHATEVER THE INPUT: true; the input reads as it did. -/
def reorderRefusesSpec : ChangeSpec := { name := "reorderRefuses", fn := fun _ => fun
  | [d1, d2, d3, d4] => { results := [.lit (.bool true)], args := [d1, d2, d3, d4] }
  | _ => none }
def reorderRefusesRow : OpenClaim := { program := "ytngbodmooddjbaa", sum := "eadb2b2a3071d1b221b4a97abba82be62424f2bdc6b395433192a8c424e36c30", func := "netverify/netverifylaw28.ReorderRefuses", spec := "reorderRefuses", inPlace := ["slices.overlaps[int]"], unfollowed := true, recurses := true, plainKeys := false, apart := false }
def ReorderRefusesSaid : Prop := reorderRefusesRow.holds Try.pinned (OpenSpec.ofChange reorderRefusesSpec)

/-- ITS FALSE NEIGHBOUR: 'it returns false'. Refute it at one input. -/
def reorderRefusesWrong : ChangeSpec := { name := "reorderRefuses", fn := fun _ => fun
  | [d1, d2, d3, d4] => { results := [.lit (.bool false)], args := [d1, d2, d3, d4] }
  | _ => none }
def ReorderRefusesWrongFalsely : Prop := reorderRefusesRow.holds Try.pinned (OpenSpec.ofChange reorderRefusesWrong)

/-- 'netverifylaw28.ReorderSifts': WHATEVER THE INPUT: true; the input reads as it did. -/
def reorderSiftsSpec : ChangeSpec := { name := "reorderSifts", fn := fun _ => fun
  | [d1, d2, d3, d4] => { results := [.lit (.bool true)], args := [d1, d2, d3, d4] }
  | _ => none }
def reorderSiftsRow : OpenClaim := { program := "ytngbodmooddjbaa", sum := "eadb2b2a3071d1b221b4a97abba82be62424f2bdc6b395433192a8c424e36c30", func := "netverify/netverifylaw28.ReorderSifts", spec := "reorderSifts", unfollowed := true, recurses := true, plainKeys := false, apart := false }
def ReorderSiftsSaid : Prop := reorderSiftsRow.holds Try.pinned (OpenSpec.ofChange reorderSiftsSpec)

/-- ITS FALSE NEIGHBOUR: 'it returns false'. Refute it at one input. -/
def reorderSiftsWrong : ChangeSpec := { name := "reorderSifts", fn := fun _ => fun
  | [d1, d2, d3, d4] => { results := [.lit (.bool false)], args := [d1, d2, d3, d4] }
  | _ => none }
def ReorderSiftsWrongFalsely : Prop := reorderSiftsRow.holds Try.pinned (OpenSpec.ofChange reorderSiftsWrong)

/-- 'netverifylaw28.ReorderKeeps': WHATEVER THE INPUT: true; the input reads as it did. -/
def reorderKeepsSpec : ChangeSpec := { name := "reorderKeeps", fn := fun _ => fun
  | [d1, d2, d3] => { results := [.lit (.bool true)], args := [d1, d2, d3] }
  | _ => none }
def reorderKeepsRow : OpenClaim := { program := "ytngbodmooddjbaa", sum := "eadb2b2a3071d1b221b4a97abba82be62424f2bdc6b395433192a8c424e36c30", func := "netverify/netverifylaw28.ReorderKeeps", spec := "reorderKeeps", inPlace := ["slices.overlaps[int]"], unfollowed := true, recurses := true, plainKeys := false, apart := false }
def ReorderKeepsSaid : Prop := reorderKeepsRow.holds Try.pinned (OpenSpec.ofChange reorderKeepsSpec)

/-- ITS FALSE NEIGHBOUR: 'it returns false'. Refute it at one input. -/
def reorderKeepsWrong : ChangeSpec := { name := "reorderKeeps", fn := fun _ => fun
  | [d1, d2, d3] => { results := [.lit (.bool false)], args := [d1, d2, d3] }
  | _ => none }
def ReorderKeepsWrongFalsely : Prop := reorderKeepsRow.holds Try.pinned (OpenSpec.ofChange reorderKeepsWrong)

/- THE SECOND FORM. 'bulk': how many values and letters a reading holds, each counted each time it is reached (what is shared counts as often as it is met; a slice's spare places count too). A statement '..UptoSaid' is the law's where the arguments, and the package variables that the reading takes, are together of bulk at most 1048576: NARROWER than '..Said'. Prove '..Said' where nothing that the law and all that it calls make is longer than what came in: it says more and counts as full. Else prove '..UptoSaid'. A law counts once. -/
mutual
def uptoBulk {H : Type} : DataW H → Nat
  | .lit (.string bytes) => bytes.length + 1
  | .lit _ => 1
  | .nil => 1
  | .ptr d => uptoBulk d + 1
  | .slice elems spare => uptoBulkAll elems + uptoBulkAll spare + 1
  | .agg parts => uptoBulkAll parts + 1
  | .iface _ d => uptoBulk d + 1
  | .map entries => uptoBulkEntries entries + 1
  | .held _ => 1
def uptoBulkAll {H : Type} : List (DataW H) → Nat
  | [] => 0
  | d :: r => uptoBulk d + uptoBulkAll r
def uptoBulkEntries {H : Type} : List (Lit × DataW H) → Nat
  | [] => 0
  | x :: r => uptoBulkEntry x + uptoBulkEntries r
def uptoBulkEntry {H : Type} : Lit × DataW H → Nat
  | (.string bytes, d) => bytes.length + uptoBulk d + 1
  | (_, d) => uptoBulk d + 1
 end
def uptoSmall : (H : Type) → List (DataW H) → Bool := fun _ ds => decide (uptoBulkAll ds ≤ 1048576)
def OpenSpec.upto (s : _root_.Go.ChangeSpec) : _root_.Go.OpenSpec := { _root_.Go.OpenSpec.ofChange s with cond := some uptoSmall }

/-- 'netverifylaw27.QuantImages', WHERE WHAT IT READS IS OF BULK AT MOST 1048576: true; the input reads as it did. -/
def quantImagesUptoRow : OpenClaim := { program := "ytngbodmooddjbaa", sum := "eadb2b2a3071d1b221b4a97abba82be62424f2bdc6b395433192a8c424e36c30", func := "netverify/netverifylaw27.QuantImages", spec := "quantImages", inPlace := ["math/bits.Add64"], unfollowed := true, recurses := true, plainKeys := false, apart := false, narrowed := true }
def QuantImagesUptoSaid : Prop := quantImagesUptoRow.holds Try.pinned (OpenSpec.upto quantImagesSpec)

/-- 'netverifylaw27.QuantCounts', WHERE WHAT IT READS IS OF BULK AT MOST 1048576: true; the input reads as it did. -/
def quantCountsUptoRow : OpenClaim := { program := "ytngbodmooddjbaa", sum := "eadb2b2a3071d1b221b4a97abba82be62424f2bdc6b395433192a8c424e36c30", func := "netverify/netverifylaw27.QuantCounts", spec := "quantCounts", inPlace := ["math/bits.Add64"], unfollowed := true, recurses := true, plainKeys := false, apart := false, narrowed := true }
def QuantCountsUptoSaid : Prop := quantCountsUptoRow.holds Try.pinned (OpenSpec.upto quantCountsSpec)

/-- 'netverifylaw27.QuantDuals', WHERE WHAT IT READS IS OF BULK AT MOST 1048576: true; the input reads as it did. -/
def quantDualsUptoRow : OpenClaim := { program := "ytngbodmooddjbaa", sum := "eadb2b2a3071d1b221b4a97abba82be62424f2bdc6b395433192a8c424e36c30", func := "netverify/netverifylaw27.QuantDuals", spec := "quantDuals", inPlace := ["math/bits.Add64"], unfollowed := true, recurses := true, plainKeys := false, apart := false, narrowed := true }
def QuantDualsUptoSaid : Prop := quantDualsUptoRow.holds Try.pinned (OpenSpec.upto quantDualsSpec)

/-- 'netverifylaw28.ReorderPairs', WHERE WHAT IT READS IS OF BULK AT MOST 1048576: true; the input reads as it did. -/
def reorderPairsUptoRow : OpenClaim := { program := "ytngbodmooddjbaa", sum := "eadb2b2a3071d1b221b4a97abba82be62424f2bdc6b395433192a8c424e36c30", func := "netverify/netverifylaw28.ReorderPairs", spec := "reorderPairs", unfollowed := true, recurses := true, plainKeys := false, apart := false, narrowed := true }
def ReorderPairsUptoSaid : Prop := reorderPairsUptoRow.holds Try.pinned (OpenSpec.upto reorderPairsSpec)

/-- 'netverifylaw28.ReorderUndoes', WHERE WHAT IT READS IS OF BULK AT MOST 1048576: true; the input reads as it did. -/
def reorderUndoesUptoRow : OpenClaim := { program := "ytngbodmooddjbaa", sum := "eadb2b2a3071d1b221b4a97abba82be62424f2bdc6b395433192a8c424e36c30", func := "netverify/netverifylaw28.ReorderUndoes", spec := "reorderUndoes", unfollowed := true, recurses := true, plainKeys := false, apart := false, narrowed := true }
def ReorderUndoesUptoSaid : Prop := reorderUndoesUptoRow.holds Try.pinned (OpenSpec.upto reorderUndoesSpec)

/-- 'netverifylaw28.ReorderRefuses', WHERE WHAT IT READS IS OF BULK AT MOST 1048576: true; the input reads as it did. -/
def reorderRefusesUptoRow : OpenClaim := { program := "ytngbodmooddjbaa", sum := "eadb2b2a3071d1b221b4a97abba82be62424f2bdc6b395433192a8c424e36c30", func := "netverify/netverifylaw28.ReorderRefuses", spec := "reorderRefuses", inPlace := ["slices.overlaps[int]"], unfollowed := true, recurses := true, plainKeys := false, apart := false, narrowed := true }
def ReorderRefusesUptoSaid : Prop := reorderRefusesUptoRow.holds Try.pinned (OpenSpec.upto reorderRefusesSpec)

/-- 'netverifylaw28.ReorderSifts', WHERE WHAT IT READS IS OF BULK AT MOST 1048576: true; the input reads as it did. -/
def reorderSiftsUptoRow : OpenClaim := { program := "ytngbodmooddjbaa", sum := "eadb2b2a3071d1b221b4a97abba82be62424f2bdc6b395433192a8c424e36c30", func := "netverify/netverifylaw28.ReorderSifts", spec := "reorderSifts", unfollowed := true, recurses := true, plainKeys := false, apart := false, narrowed := true }
def ReorderSiftsUptoSaid : Prop := reorderSiftsUptoRow.holds Try.pinned (OpenSpec.upto reorderSiftsSpec)

/-- 'netverifylaw28.ReorderKeeps', WHERE WHAT IT READS IS OF BULK AT MOST 1048576: true; the input reads as it did. -/
def reorderKeepsUptoRow : OpenClaim := { program := "ytngbodmooddjbaa", sum := "eadb2b2a3071d1b221b4a97abba82be62424f2bdc6b395433192a8c424e36c30", func := "netverify/netverifylaw28.ReorderKeeps", spec := "reorderKeeps", inPlace := ["slices.overlaps[int]"], unfollowed := true, recurses := true, plainKeys := false, apart := false, narrowed := true }
def ReorderKeepsUptoSaid : Prop := reorderKeepsUptoRow.holds Try.pinned (OpenSpec.upto reorderKeepsSpec)

end Rows
end Go.Proofs.Ytngbodmooddjbaa
