/-
  No cell of these rows narrows 'for every input' (looked for: loops, veiled, ifaces, maps, wideKeys, modest, calm, conditions, laid).
  DERIVED. THE GIVEN ROWS OF THIS SEAT. 13 by the template 'for every input the law returns true; each argument reads behind the call as it read before'; 0 by the template 'total and deterministic' (their statements: YtjelapkglkcoiaaTotals.lean).
  GIVEN WITH THE SEED: the statements are not yours to turn. If you find one false, say at which input.
  Laid BY PROGRAM, IN A SANDBOX (cutbox-rows.mjs): the forced cells as the released guide's own fill.sh prints them over the translation b0fc93112f135015… (all of the seat's roots in one cut). By AI agents, Wed Nov 11 2026. No macro, syntax, notation, axiom, sorry.
-/
import Derived.Test.YtjelapkglkcoiaaChecked
import GoSem.Claim
import GoSem.ClaimJoined
import GoSem.ClaimMapViews
import Derived.JoinedTies
import Derived.KernelRfl
namespace Go.Proofs.Ytjelapkglkcoiaa
/- THE CELL 'sum', in the pinned program and in every row, IS THE sha256 OF THE DUMP (.gsa) THAT YtjelapkglkcoiaaProg.lean LOADS. Nothing in Lean hashes anything: it is a label: what it is worth is what the hold of that sum in a sandbox is worth. -/
noncomputable def Try.pinned : Pinned := { name := "ytjelapkglkcoiaa", sum := "b0fc93112f13501532c7d8b3e6c50ca87f6e1da147e1c76951a9f7fe4e3c4a5c", checked := Try.checked }
namespace Rows
def none {H : Type} : Left H := { results := [], args := [] }

/-- 'copyholdlaw07.NodeSame': WHATEVER THE INPUT: true; the input reads as it did. -/
def nodeSameSpec : ChangeSpec := { name := "nodeSame", fn := fun _ => fun
  | [d1, d2] => { results := [.lit (.bool true)], args := [d1, d2] }
  | _ => none }
def nodeSameRow : OpenClaim := { program := "ytjelapkglkcoiaa", sum := "b0fc93112f13501532c7d8b3e6c50ca87f6e1da147e1c76951a9f7fe4e3c4a5c", func := "copyhold/copyholdlaw07.NodeSame", spec := "nodeSame", inPlace := ["internal/abi.NoEscape", "internal/bytealg.MakeNoZero", "internal/bytealg.IndexByteString"], unfollowed := true, recurses := true, apart := false }
def NodeSameSaid : Prop := nodeSameRow.holds Try.pinned (OpenSpec.ofChange nodeSameSpec)

/-- ITS FALSE NEIGHBOUR: 'it returns false'. Refute it at one input. -/
def nodeSameWrong : ChangeSpec := { name := "nodeSame", fn := fun _ => fun
  | [d1, d2] => { results := [.lit (.bool false)], args := [d1, d2] }
  | _ => none }
def NodeSameWrongFalsely : Prop := nodeSameRow.holds Try.pinned (OpenSpec.ofChange nodeSameWrong)

/-- 'copyholdlaw08.TreeRights': WHATEVER THE INPUT: true; the input reads as it did. -/
def treeRightsSpec : ChangeSpec := { name := "treeRights", fn := fun _ => fun
  | [d1, d2] => { results := [.lit (.bool true)], args := [d1, d2] }
  | _ => none }
def treeRightsRow : OpenClaim := { program := "ytjelapkglkcoiaa", sum := "b0fc93112f13501532c7d8b3e6c50ca87f6e1da147e1c76951a9f7fe4e3c4a5c", func := "copyhold/copyholdlaw08.TreeRights", spec := "treeRights", inPlace := ["internal/bytealg.IndexByteString"], unfollowed := true, recurses := true, apart := false }
def TreeRightsSaid : Prop := treeRightsRow.holds Try.pinned (OpenSpec.ofChange treeRightsSpec)

/-- ITS FALSE NEIGHBOUR: 'it returns false'. Refute it at one input. -/
def treeRightsWrong : ChangeSpec := { name := "treeRights", fn := fun _ => fun
  | [d1, d2] => { results := [.lit (.bool false)], args := [d1, d2] }
  | _ => none }
def TreeRightsWrongFalsely : Prop := treeRightsRow.holds Try.pinned (OpenSpec.ofChange treeRightsWrong)

/-- 'copyholdlaw08.TreeBelow': WHATEVER THE INPUT: true; the input reads as it did. -/
def treeBelowSpec : ChangeSpec := { name := "treeBelow", fn := fun _ => fun
  | [d] => { results := [.lit (.bool true)], args := [d] }
  | _ => none }
def treeBelowRow : OpenClaim := { program := "ytjelapkglkcoiaa", sum := "b0fc93112f13501532c7d8b3e6c50ca87f6e1da147e1c76951a9f7fe4e3c4a5c", func := "copyhold/copyholdlaw08.TreeBelow", spec := "treeBelow", inPlace := ["internal/bytealg.IndexByteString"], unfollowed := true, recurses := true, apart := false }
def TreeBelowSaid : Prop := treeBelowRow.holds Try.pinned (OpenSpec.ofChange treeBelowSpec)

/-- ITS FALSE NEIGHBOUR: 'it returns false'. Refute it at one input. -/
def treeBelowWrong : ChangeSpec := { name := "treeBelow", fn := fun _ => fun
  | [d] => { results := [.lit (.bool false)], args := [d] }
  | _ => none }
def TreeBelowWrongFalsely : Prop := treeBelowRow.holds Try.pinned (OpenSpec.ofChange treeBelowWrong)

/-- 'copyholdlaw07.NodeKinds': WHATEVER THE INPUT: true; the input reads as it did. -/
def nodeKindsSpec : ChangeSpec := { name := "nodeKinds", fn := fun _ => fun
  | [d] => { results := [.lit (.bool true)], args := [d] }
  | _ => none }
def nodeKindsRow : OpenClaim := { program := "ytjelapkglkcoiaa", sum := "b0fc93112f13501532c7d8b3e6c50ca87f6e1da147e1c76951a9f7fe4e3c4a5c", func := "copyhold/copyholdlaw07.NodeKinds", spec := "nodeKinds", inPlace := ["internal/abi.NoEscape", "internal/bytealg.MakeNoZero", "internal/bytealg.IndexByteString"], unfollowed := true, recurses := true, apart := false }
def NodeKindsSaid : Prop := nodeKindsRow.holds Try.pinned (OpenSpec.ofChange nodeKindsSpec)

/-- ITS FALSE NEIGHBOUR: 'it returns false'. Refute it at one input. -/
def nodeKindsWrong : ChangeSpec := { name := "nodeKinds", fn := fun _ => fun
  | [d] => { results := [.lit (.bool false)], args := [d] }
  | _ => none }
def NodeKindsWrongFalsely : Prop := nodeKindsRow.holds Try.pinned (OpenSpec.ofChange nodeKindsWrong)

/-- 'copyholdlaw07.NodeSizes': WHATEVER THE INPUT: true; the input reads as it did. -/
def nodeSizesSpec : ChangeSpec := { name := "nodeSizes", fn := fun _ => fun
  | [d] => { results := [.lit (.bool true)], args := [d] }
  | _ => none }
def nodeSizesRow : OpenClaim := { program := "ytjelapkglkcoiaa", sum := "b0fc93112f13501532c7d8b3e6c50ca87f6e1da147e1c76951a9f7fe4e3c4a5c", func := "copyhold/copyholdlaw07.NodeSizes", spec := "nodeSizes", inPlace := ["internal/abi.NoEscape", "internal/bytealg.MakeNoZero", "internal/bytealg.IndexByteString"], unfollowed := true, recurses := true, apart := false }
def NodeSizesSaid : Prop := nodeSizesRow.holds Try.pinned (OpenSpec.ofChange nodeSizesSpec)

/-- ITS FALSE NEIGHBOUR: 'it returns false'. Refute it at one input. -/
def nodeSizesWrong : ChangeSpec := { name := "nodeSizes", fn := fun _ => fun
  | [d] => { results := [.lit (.bool false)], args := [d] }
  | _ => none }
def NodeSizesWrongFalsely : Prop := nodeSizesRow.holds Try.pinned (OpenSpec.ofChange nodeSizesWrong)

/-- 'copyholdlaw08.TreeOuts': WHATEVER THE INPUT: true; the input reads as it did. -/
def treeOutsSpec : ChangeSpec := { name := "treeOuts", fn := fun _ => fun
  | [d1, d2] => { results := [.lit (.bool true)], args := [d1, d2] }
  | _ => none }
def treeOutsRow : OpenClaim := { program := "ytjelapkglkcoiaa", sum := "b0fc93112f13501532c7d8b3e6c50ca87f6e1da147e1c76951a9f7fe4e3c4a5c", func := "copyhold/copyholdlaw08.TreeOuts", spec := "treeOuts", inPlace := ["internal/bytealg.IndexByteString"], unfollowed := true, recurses := true, apart := false }
def TreeOutsSaid : Prop := treeOutsRow.holds Try.pinned (OpenSpec.ofChange treeOutsSpec)

/-- ITS FALSE NEIGHBOUR: 'it returns false'. Refute it at one input. -/
def treeOutsWrong : ChangeSpec := { name := "treeOuts", fn := fun _ => fun
  | [d1, d2] => { results := [.lit (.bool false)], args := [d1, d2] }
  | _ => none }
def TreeOutsWrongFalsely : Prop := treeOutsRow.holds Try.pinned (OpenSpec.ofChange treeOutsWrong)

/-- 'copyholdlaw07.NodeBack': WHATEVER THE INPUT: true; the input reads as it did. -/
def nodeBackSpec : ChangeSpec := { name := "nodeBack", fn := fun _ => fun
  | [d1, d2, d3] => { results := [.lit (.bool true)], args := [d1, d2, d3] }
  | _ => none }
def nodeBackRow : OpenClaim := { program := "ytjelapkglkcoiaa", sum := "b0fc93112f13501532c7d8b3e6c50ca87f6e1da147e1c76951a9f7fe4e3c4a5c", func := "copyhold/copyholdlaw07.NodeBack", spec := "nodeBack", inPlace := ["internal/abi.NoEscape", "internal/bytealg.MakeNoZero", "internal/bytealg.IndexByteString"], unfollowed := true, recurses := true, apart := false }
def NodeBackSaid : Prop := nodeBackRow.holds Try.pinned (OpenSpec.ofChange nodeBackSpec)

/-- ITS FALSE NEIGHBOUR: 'it returns false'. Refute it at one input. -/
def nodeBackWrong : ChangeSpec := { name := "nodeBack", fn := fun _ => fun
  | [d1, d2, d3] => { results := [.lit (.bool false)], args := [d1, d2, d3] }
  | _ => none }
def NodeBackWrongFalsely : Prop := nodeBackRow.holds Try.pinned (OpenSpec.ofChange nodeBackWrong)

/-- 'copyholdlaw07.NodeOnly': WHATEVER THE INPUT: true; the input reads as it did. -/
def nodeOnlySpec : ChangeSpec := { name := "nodeOnly", fn := fun _ => fun
  | [d] => { results := [.lit (.bool true)], args := [d] }
  | _ => none }
def nodeOnlyRow : OpenClaim := { program := "ytjelapkglkcoiaa", sum := "b0fc93112f13501532c7d8b3e6c50ca87f6e1da147e1c76951a9f7fe4e3c4a5c", func := "copyhold/copyholdlaw07.NodeOnly", spec := "nodeOnly", inPlace := ["internal/abi.NoEscape", "internal/bytealg.MakeNoZero", "internal/bytealg.IndexByteString"], unfollowed := true, recurses := true, apart := false }
def NodeOnlySaid : Prop := nodeOnlyRow.holds Try.pinned (OpenSpec.ofChange nodeOnlySpec)

/-- ITS FALSE NEIGHBOUR: 'it returns false'. Refute it at one input. -/
def nodeOnlyWrong : ChangeSpec := { name := "nodeOnly", fn := fun _ => fun
  | [d] => { results := [.lit (.bool false)], args := [d] }
  | _ => none }
def NodeOnlyWrongFalsely : Prop := nodeOnlyRow.holds Try.pinned (OpenSpec.ofChange nodeOnlyWrong)

/-- 'copyholdlaw07.NodeRows': WHATEVER THE INPUT: true; the input reads as it did. -/
def nodeRowsSpec : ChangeSpec := { name := "nodeRows", fn := fun _ => fun
  | [d1, d2] => { results := [.lit (.bool true)], args := [d1, d2] }
  | _ => none }
def nodeRowsRow : OpenClaim := { program := "ytjelapkglkcoiaa", sum := "b0fc93112f13501532c7d8b3e6c50ca87f6e1da147e1c76951a9f7fe4e3c4a5c", func := "copyhold/copyholdlaw07.NodeRows", spec := "nodeRows", inPlace := ["internal/abi.NoEscape", "internal/bytealg.MakeNoZero", "internal/bytealg.IndexByteString"], unfollowed := true, recurses := true, apart := false }
def NodeRowsSaid : Prop := nodeRowsRow.holds Try.pinned (OpenSpec.ofChange nodeRowsSpec)

/-- ITS FALSE NEIGHBOUR: 'it returns false'. Refute it at one input. -/
def nodeRowsWrong : ChangeSpec := { name := "nodeRows", fn := fun _ => fun
  | [d1, d2] => { results := [.lit (.bool false)], args := [d1, d2] }
  | _ => none }
def NodeRowsWrongFalsely : Prop := nodeRowsRow.holds Try.pinned (OpenSpec.ofChange nodeRowsWrong)

/-- 'copyholdlaw07.NodeTexts': WHATEVER THE INPUT: true; the input reads as it did. -/
def nodeTextsSpec : ChangeSpec := { name := "nodeTexts", fn := fun _ => fun
  | [d1, d2, d3] => { results := [.lit (.bool true)], args := [d1, d2, d3] }
  | _ => none }
def nodeTextsRow : OpenClaim := { program := "ytjelapkglkcoiaa", sum := "b0fc93112f13501532c7d8b3e6c50ca87f6e1da147e1c76951a9f7fe4e3c4a5c", func := "copyhold/copyholdlaw07.NodeTexts", spec := "nodeTexts", inPlace := ["internal/abi.NoEscape", "internal/bytealg.MakeNoZero", "internal/bytealg.IndexByteString"], unfollowed := true, recurses := true, apart := false }
def NodeTextsSaid : Prop := nodeTextsRow.holds Try.pinned (OpenSpec.ofChange nodeTextsSpec)

/-- ITS FALSE NEIGHBOUR: 'it returns false'. Refute it at one input. -/
def nodeTextsWrong : ChangeSpec := { name := "nodeTexts", fn := fun _ => fun
  | [d1, d2, d3] => { results := [.lit (.bool false)], args := [d1, d2, d3] }
  | _ => none }
def NodeTextsWrongFalsely : Prop := nodeTextsRow.holds Try.pinned (OpenSpec.ofChange nodeTextsWrong)

/-- 'copyholdlaw08.TreePuts': WHATEVER THE INPUT: true; the input reads as it did. -/
def treePutsSpec : ChangeSpec := { name := "treePuts", fn := fun _ => fun
  | [d1, d2, d3] => { results := [.lit (.bool true)], args := [d1, d2, d3] }
  | _ => none }
def treePutsRow : OpenClaim := { program := "ytjelapkglkcoiaa", sum := "b0fc93112f13501532c7d8b3e6c50ca87f6e1da147e1c76951a9f7fe4e3c4a5c", func := "copyhold/copyholdlaw08.TreePuts", spec := "treePuts", inPlace := ["internal/bytealg.IndexByteString", "slices.overlaps[copyhold/api.Node]"], unfollowed := true, recurses := true, apart := false }
def TreePutsSaid : Prop := treePutsRow.holds Try.pinned (OpenSpec.ofChange treePutsSpec)

/-- ITS FALSE NEIGHBOUR: 'it returns false'. Refute it at one input. -/
def treePutsWrong : ChangeSpec := { name := "treePuts", fn := fun _ => fun
  | [d1, d2, d3] => { results := [.lit (.bool false)], args := [d1, d2, d3] }
  | _ => none }
def TreePutsWrongFalsely : Prop := treePutsRow.holds Try.pinned (OpenSpec.ofChange treePutsWrong)

/-- 'copyholdlaw08.TreeBack': WHATEVER THE INPUT: true; the input reads as it did. -/
def treeBackSpec : ChangeSpec := { name := "treeBack", fn := fun _ => fun
  | [d1, d2] => { results := [.lit (.bool true)], args := [d1, d2] }
  | _ => none }
def treeBackRow : OpenClaim := { program := "ytjelapkglkcoiaa", sum := "b0fc93112f13501532c7d8b3e6c50ca87f6e1da147e1c76951a9f7fe4e3c4a5c", func := "copyhold/copyholdlaw08.TreeBack", spec := "treeBack", inPlace := ["internal/bytealg.IndexByteString", "internal/abi.NoEscape", "internal/bytealg.MakeNoZero"], unfollowed := true, recurses := true, apart := false }
def TreeBackSaid : Prop := treeBackRow.holds Try.pinned (OpenSpec.ofChange treeBackSpec)

/-- ITS FALSE NEIGHBOUR: 'it returns false'. Refute it at one input. -/
def treeBackWrong : ChangeSpec := { name := "treeBack", fn := fun _ => fun
  | [d1, d2] => { results := [.lit (.bool false)], args := [d1, d2] }
  | _ => none }
def TreeBackWrongFalsely : Prop := treeBackRow.holds Try.pinned (OpenSpec.ofChange treeBackWrong)

/-- 'copyholdlaw08.TreeTurns': WHATEVER THE INPUT: true; the input reads as it did. -/
def treeTurnsSpec : ChangeSpec := { name := "treeTurns", fn := fun _ => fun
  | [d] => { results := [.lit (.bool true)], args := [d] }
  | _ => none }
def treeTurnsRow : OpenClaim := { program := "ytjelapkglkcoiaa", sum := "b0fc93112f13501532c7d8b3e6c50ca87f6e1da147e1c76951a9f7fe4e3c4a5c", func := "copyhold/copyholdlaw08.TreeTurns", spec := "treeTurns", inPlace := ["internal/bytealg.IndexByteString", "slices.overlaps[copyhold/api.Node]"], unfollowed := true, recurses := true, apart := false }
def TreeTurnsSaid : Prop := treeTurnsRow.holds Try.pinned (OpenSpec.ofChange treeTurnsSpec)

/-- ITS FALSE NEIGHBOUR: 'it returns false'. Refute it at one input. -/
def treeTurnsWrong : ChangeSpec := { name := "treeTurns", fn := fun _ => fun
  | [d] => { results := [.lit (.bool false)], args := [d] }
  | _ => none }
def TreeTurnsWrongFalsely : Prop := treeTurnsRow.holds Try.pinned (OpenSpec.ofChange treeTurnsWrong)

/- THE SECOND FORM. 'bulk': how many values and letters a reading holds, each counted each time it is reached (what is shared counts as often as it is met; a slice's spare places count too). A statement '..UptoSaid' is the law's where the arguments, and the package variables that the reading takes, are together of bulk at most 1048576: NARROWER than '..Said'. Prove '..Said' where nothing that the law and all that it calls make is longer than what came in: it says more and counts as full. Else prove '..UptoSaid'. A law counts once. -/
mutual
def uptoBulk {H : Type} : DataW H → Nat
  | .lit (.string bytes) => bytes.length + 1
  | .lit _ => 1
  | .nil => 1
  | .ptr d => uptoBulk d + 1
  | .slice elems spare => uptoBulkAll elems + uptoBulkAll spare + 1
  | .agg parts => uptoBulkAll parts + 1
  | .iface _ d => uptoBulk d + 1
  | .map entries => uptoBulkEntries entries + 1
  | .held _ => 1
def uptoBulkAll {H : Type} : List (DataW H) → Nat
  | [] => 0
  | d :: r => uptoBulk d + uptoBulkAll r
def uptoBulkEntries {H : Type} : List (Lit × DataW H) → Nat
  | [] => 0
  | x :: r => uptoBulkEntry x + uptoBulkEntries r
def uptoBulkEntry {H : Type} : Lit × DataW H → Nat
  | (.string bytes, d) => bytes.length + uptoBulk d + 1
  | (_, d) => uptoBulk d + 1
 end
def uptoSmall : (H : Type) → List (DataW H) → Bool := fun _ ds => decide (uptoBulkAll ds ≤ 1048576)
def OpenSpec.upto (s : _root_.Go.ChangeSpec) : _root_.Go.OpenSpec := { _root_.Go.OpenSpec.ofChange s with cond := some uptoSmall }

/-- 'copyholdlaw07.NodeSame', WHERE WHAT IT READS IS OF BULK AT MOST 1048576: true; the input reads as it did. -/
def nodeSameUptoRow : OpenClaim := { program := "ytjelapkglkcoiaa", sum := "b0fc93112f13501532c7d8b3e6c50ca87f6e1da147e1c76951a9f7fe4e3c4a5c", func := "copyhold/copyholdlaw07.NodeSame", spec := "nodeSame", inPlace := ["internal/abi.NoEscape", "internal/bytealg.MakeNoZero", "internal/bytealg.IndexByteString"], unfollowed := true, recurses := true, apart := false, narrowed := true }
def NodeSameUptoSaid : Prop := nodeSameUptoRow.holds Try.pinned (OpenSpec.upto nodeSameSpec)

/-- 'copyholdlaw08.TreeRights', WHERE WHAT IT READS IS OF BULK AT MOST 1048576: true; the input reads as it did. -/
def treeRightsUptoRow : OpenClaim := { program := "ytjelapkglkcoiaa", sum := "b0fc93112f13501532c7d8b3e6c50ca87f6e1da147e1c76951a9f7fe4e3c4a5c", func := "copyhold/copyholdlaw08.TreeRights", spec := "treeRights", inPlace := ["internal/bytealg.IndexByteString"], unfollowed := true, recurses := true, apart := false, narrowed := true }
def TreeRightsUptoSaid : Prop := treeRightsUptoRow.holds Try.pinned (OpenSpec.upto treeRightsSpec)

/-- 'copyholdlaw08.TreeBelow', WHERE WHAT IT READS IS OF BULK AT MOST 1048576: true; the input reads as it did. -/
def treeBelowUptoRow : OpenClaim := { program := "ytjelapkglkcoiaa", sum := "b0fc93112f13501532c7d8b3e6c50ca87f6e1da147e1c76951a9f7fe4e3c4a5c", func := "copyhold/copyholdlaw08.TreeBelow", spec := "treeBelow", inPlace := ["internal/bytealg.IndexByteString"], unfollowed := true, recurses := true, apart := false, narrowed := true }
def TreeBelowUptoSaid : Prop := treeBelowUptoRow.holds Try.pinned (OpenSpec.upto treeBelowSpec)

/-- 'copyholdlaw07.NodeKinds', WHERE WHAT IT READS IS OF BULK AT MOST 1048576: true; the input reads as it did. -/
def nodeKindsUptoRow : OpenClaim := { program := "ytjelapkglkcoiaa", sum := "b0fc93112f13501532c7d8b3e6c50ca87f6e1da147e1c76951a9f7fe4e3c4a5c", func := "copyhold/copyholdlaw07.NodeKinds", spec := "nodeKinds", inPlace := ["internal/abi.NoEscape", "internal/bytealg.MakeNoZero", "internal/bytealg.IndexByteString"], unfollowed := true, recurses := true, apart := false, narrowed := true }
def NodeKindsUptoSaid : Prop := nodeKindsUptoRow.holds Try.pinned (OpenSpec.upto nodeKindsSpec)

/-- 'copyholdlaw07.NodeSizes', WHERE WHAT IT READS IS OF BULK AT MOST 1048576: true; the input reads as it did. -/
def nodeSizesUptoRow : OpenClaim := { program := "ytjelapkglkcoiaa", sum := "b0fc93112f13501532c7d8b3e6c50ca87f6e1da147e1c76951a9f7fe4e3c4a5c", func := "copyhold/copyholdlaw07.NodeSizes", spec := "nodeSizes", inPlace := ["internal/abi.NoEscape", "internal/bytealg.MakeNoZero", "internal/bytealg.IndexByteString"], unfollowed := true, recurses := true, apart := false, narrowed := true }
def NodeSizesUptoSaid : Prop := nodeSizesUptoRow.holds Try.pinned (OpenSpec.upto nodeSizesSpec)

/-- 'copyholdlaw08.TreeOuts', WHERE WHAT IT READS IS OF BULK AT MOST 1048576: true; the input reads as it did. -/
def treeOutsUptoRow : OpenClaim := { program := "ytjelapkglkcoiaa", sum := "b0fc93112f13501532c7d8b3e6c50ca87f6e1da147e1c76951a9f7fe4e3c4a5c", func := "copyhold/copyholdlaw08.TreeOuts", spec := "treeOuts", inPlace := ["internal/bytealg.IndexByteString"], unfollowed := true, recurses := true, apart := false, narrowed := true }
def TreeOutsUptoSaid : Prop := treeOutsUptoRow.holds Try.pinned (OpenSpec.upto treeOutsSpec)

/-- 'copyholdlaw07.NodeBack', WHERE WHAT IT READS IS OF BULK AT MOST 1048576: true; the input reads as it did. -/
def nodeBackUptoRow : OpenClaim := { program := "ytjelapkglkcoiaa", sum := "b0fc93112f13501532c7d8b3e6c50ca87f6e1da147e1c76951a9f7fe4e3c4a5c", func := "copyhold/copyholdlaw07.NodeBack", spec := "nodeBack", inPlace := ["internal/abi.NoEscape", "internal/bytealg.MakeNoZero", "internal/bytealg.IndexByteString"], unfollowed := true, recurses := true, apart := false, narrowed := true }
def NodeBackUptoSaid : Prop := nodeBackUptoRow.holds Try.pinned (OpenSpec.upto nodeBackSpec)

/-- 'copyholdlaw07.NodeOnly', WHERE WHAT IT READS IS OF BULK AT MOST 1048576: true; the input reads as it did. -/
def nodeOnlyUptoRow : OpenClaim := { program := "ytjelapkglkcoiaa", sum := "b0fc93112f13501532c7d8b3e6c50ca87f6e1da147e1c76951a9f7fe4e3c4a5c", func := "copyhold/copyholdlaw07.NodeOnly", spec := "nodeOnly", inPlace := ["internal/abi.NoEscape", "internal/bytealg.MakeNoZero", "internal/bytealg.IndexByteString"], unfollowed := true, recurses := true, apart := false, narrowed := true }
def NodeOnlyUptoSaid : Prop := nodeOnlyUptoRow.holds Try.pinned (OpenSpec.upto nodeOnlySpec)

/-- 'copyholdlaw07.NodeRows', WHERE WHAT IT READS IS OF BULK AT MOST 1048576: true; the input reads as it did. -/
def nodeRowsUptoRow : OpenClaim := { program := "ytjelapkglkcoiaa", sum := "b0fc93112f13501532c7d8b3e6c50ca87f6e1da147e1c76951a9f7fe4e3c4a5c", func := "copyhold/copyholdlaw07.NodeRows", spec := "nodeRows", inPlace := ["internal/abi.NoEscape", "internal/bytealg.MakeNoZero", "internal/bytealg.IndexByteString"], unfollowed := true, recurses := true, apart := false, narrowed := true }
def NodeRowsUptoSaid : Prop := nodeRowsUptoRow.holds Try.pinned (OpenSpec.upto nodeRowsSpec)

/-- 'copyholdlaw07.NodeTexts', WHERE WHAT IT READS IS OF BULK AT MOST 1048576: true; the input reads as it did. -/
def nodeTextsUptoRow : OpenClaim := { program := "ytjelapkglkcoiaa", sum := "b0fc93112f13501532c7d8b3e6c50ca87f6e1da147e1c76951a9f7fe4e3c4a5c", func := "copyhold/copyholdlaw07.NodeTexts", spec := "nodeTexts", inPlace := ["internal/abi.NoEscape", "internal/bytealg.MakeNoZero", "internal/bytealg.IndexByteString"], unfollowed := true, recurses := true, apart := false, narrowed := true }
def NodeTextsUptoSaid : Prop := nodeTextsUptoRow.holds Try.pinned (OpenSpec.upto nodeTextsSpec)

/-- 'copyholdlaw08.TreePuts', WHERE WHAT IT READS IS OF BULK AT MOST 1048576: true; the input reads as it did. -/
def treePutsUptoRow : OpenClaim := { program := "ytjelapkglkcoiaa", sum := "b0fc93112f13501532c7d8b3e6c50ca87f6e1da147e1c76951a9f7fe4e3c4a5c", func := "copyhold/copyholdlaw08.TreePuts", spec := "treePuts", inPlace := ["internal/bytealg.IndexByteString", "slices.overlaps[copyhold/api.Node]"], unfollowed := true, recurses := true, apart := false, narrowed := true }
def TreePutsUptoSaid : Prop := treePutsUptoRow.holds Try.pinned (OpenSpec.upto treePutsSpec)

/-- 'copyholdlaw08.TreeBack', WHERE WHAT IT READS IS OF BULK AT MOST 1048576: true; the input reads as it did. -/
def treeBackUptoRow : OpenClaim := { program := "ytjelapkglkcoiaa", sum := "b0fc93112f13501532c7d8b3e6c50ca87f6e1da147e1c76951a9f7fe4e3c4a5c", func := "copyhold/copyholdlaw08.TreeBack", spec := "treeBack", inPlace := ["internal/bytealg.IndexByteString", "internal/abi.NoEscape", "internal/bytealg.MakeNoZero"], unfollowed := true, recurses := true, apart := false, narrowed := true }
def TreeBackUptoSaid : Prop := treeBackUptoRow.holds Try.pinned (OpenSpec.upto treeBackSpec)

/-- 'copyholdlaw08.TreeTurns', WHERE WHAT IT READS IS OF BULK AT MOST 1048576: true; the input reads as it did. -/
def treeTurnsUptoRow : OpenClaim := { program := "ytjelapkglkcoiaa", sum := "b0fc93112f13501532c7d8b3e6c50ca87f6e1da147e1c76951a9f7fe4e3c4a5c", func := "copyhold/copyholdlaw08.TreeTurns", spec := "treeTurns", inPlace := ["internal/bytealg.IndexByteString", "slices.overlaps[copyhold/api.Node]"], unfollowed := true, recurses := true, apart := false, narrowed := true }
def TreeTurnsUptoSaid : Prop := treeTurnsUptoRow.holds Try.pinned (OpenSpec.upto treeTurnsSpec)

end Rows
end Go.Proofs.Ytjelapkglkcoiaa
