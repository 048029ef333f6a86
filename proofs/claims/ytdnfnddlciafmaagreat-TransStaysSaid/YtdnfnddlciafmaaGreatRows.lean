/-
  No cell of these rows narrows 'for every input' (looked for: loops, veiled, ifaces, maps, wideKeys, modest, calm, conditions, laid).
  DERIVED. THE GIVEN ROWS OF THIS SEAT. 16 by the template 'for every input the law returns true; each argument reads behind the call as it read before'; 0 by the template 'total and deterministic' (their statements: YtdnfnddlciafmaaGreatTotals.lean).
  GIVEN WITH THE SEED: the statements are not yours to turn. If you find one false, say at which input.
  Laid BY PROGRAM, IN A SANDBOX (cutbox-rows.mjs): the forced cells as the released guide's own fill.sh prints them over the translation 6efc0e51e9eff8e8… (all of the seat's roots in one cut). By AI agents, Wed Nov 11 2026. No macro, syntax, notation, axiom, sorry.
-/
import Derived.Test.YtdnfnddlciafmaaGreatChecked
import GoSem.Claim
import GoSem.ClaimJoined
import GoSem.ClaimMapViews
import Derived.JoinedTies
import Derived.KernelRfl
namespace Go.Proofs.YtdnfnddlciafmaaGreat
/- THE CELL 'sum', in the pinned program and in every row, IS THE sha256 OF THE DUMP (.gsa) THAT YtdnfnddlciafmaaGreatProg.lean LOADS. Nothing in Lean hashes anything: it is a label: what it is worth is what the hold of that sum in a sandbox is worth. -/
noncomputable def Tryz.pinned : Pinned := { name := "ytdnfnddlciafmaagreat", sum := "6efc0e51e9eff8e8e1748d343037fec2d7df77142268c38dbbf6fe1d94f465e5", checked := Tryz.checked }
namespace Rows
def none {H : Type} : Left H := { results := [], args := [] }

/-- 'copyholdlaw11.OpsStays': WHATEVER THE INPUT: true; the input reads as it did. -/
def opsStaysSpec : ChangeSpec := { name := "opsStays", fn := fun _ => fun
  | [d1, d2] => { results := [.lit (.bool true)], args := [d1, d2] }
  | _ => none }
def opsStaysRow : OpenClaim := { program := "ytdnfnddlciafmaagreat", sum := "6efc0e51e9eff8e8e1748d343037fec2d7df77142268c38dbbf6fe1d94f465e5", func := "copyhold/copyholdlaw11.OpsStays", spec := "opsStays", inPlace := ["internal/bytealg.IndexByteString", "internal/bytealg.abigen_runtime_cmpstring", "slices.overlaps[copyhold/api.Node]", "slices.overlaps[copyhold/api.Entry]"], unfollowed := true, recurses := true, apart := false }
def OpsStaysSaid : Prop := opsStaysRow.holds Tryz.pinned (OpenSpec.ofChange opsStaysSpec)

/-- ITS FALSE NEIGHBOUR: 'it returns false'. Refute it at one input. -/
def opsStaysWrong : ChangeSpec := { name := "opsStays", fn := fun _ => fun
  | [d1, d2] => { results := [.lit (.bool false)], args := [d1, d2] }
  | _ => none }
def OpsStaysWrongFalsely : Prop := opsStaysRow.holds Tryz.pinned (OpenSpec.ofChange opsStaysWrong)

/-- 'copyholdlaw11.OpsReads': WHATEVER THE INPUT: true; the input reads as it did. -/
def opsReadsSpec : ChangeSpec := { name := "opsReads", fn := fun _ => fun
  | [d] => { results := [.lit (.bool true)], args := [d] }
  | _ => none }
def opsReadsRow : OpenClaim := { program := "ytdnfnddlciafmaagreat", sum := "6efc0e51e9eff8e8e1748d343037fec2d7df77142268c38dbbf6fe1d94f465e5", func := "copyhold/copyholdlaw11.OpsReads", spec := "opsReads", inPlace := ["internal/bytealg.IndexByteString", "internal/bytealg.abigen_runtime_cmpstring", "slices.overlaps[copyhold/api.Node]", "slices.overlaps[copyhold/api.Entry]"], unfollowed := true, recurses := true, apart := false }
def OpsReadsSaid : Prop := opsReadsRow.holds Tryz.pinned (OpenSpec.ofChange opsReadsSpec)

/-- ITS FALSE NEIGHBOUR: 'it returns false'. Refute it at one input. -/
def opsReadsWrong : ChangeSpec := { name := "opsReads", fn := fun _ => fun
  | [d] => { results := [.lit (.bool false)], args := [d] }
  | _ => none }
def OpsReadsWrongFalsely : Prop := opsReadsRow.holds Tryz.pinned (OpenSpec.ofChange opsReadsWrong)

/-- 'copyholdlaw11.OpsHangs': WHATEVER THE INPUT: true; the input reads as it did. -/
def opsHangsSpec : ChangeSpec := { name := "opsHangs", fn := fun _ => fun
  | [d] => { results := [.lit (.bool true)], args := [d] }
  | _ => none }
def opsHangsRow : OpenClaim := { program := "ytdnfnddlciafmaagreat", sum := "6efc0e51e9eff8e8e1748d343037fec2d7df77142268c38dbbf6fe1d94f465e5", func := "copyhold/copyholdlaw11.OpsHangs", spec := "opsHangs", inPlace := ["internal/bytealg.IndexByteString", "internal/bytealg.abigen_runtime_cmpstring", "slices.overlaps[copyhold/api.Node]", "slices.overlaps[copyhold/api.Entry]"], unfollowed := true, recurses := true, apart := false }
def OpsHangsSaid : Prop := opsHangsRow.holds Tryz.pinned (OpenSpec.ofChange opsHangsSpec)

/-- ITS FALSE NEIGHBOUR: 'it returns false'. Refute it at one input. -/
def opsHangsWrong : ChangeSpec := { name := "opsHangs", fn := fun _ => fun
  | [d] => { results := [.lit (.bool false)], args := [d] }
  | _ => none }
def OpsHangsWrongFalsely : Prop := opsHangsRow.holds Tryz.pinned (OpenSpec.ofChange opsHangsWrong)

/-- 'copyholdlaw11.OpsSplit': WHATEVER THE INPUT: true; the input reads as it did. -/
def opsSplitSpec : ChangeSpec := { name := "opsSplit", fn := fun _ => fun
  | [d1, d2, d3] => { results := [.lit (.bool true)], args := [d1, d2, d3] }
  | _ => none }
def opsSplitRow : OpenClaim := { program := "ytdnfnddlciafmaagreat", sum := "6efc0e51e9eff8e8e1748d343037fec2d7df77142268c38dbbf6fe1d94f465e5", func := "copyhold/copyholdlaw11.OpsSplit", spec := "opsSplit", inPlace := ["internal/bytealg.IndexByteString", "internal/bytealg.abigen_runtime_cmpstring", "slices.overlaps[copyhold/api.Node]", "slices.overlaps[copyhold/api.Entry]"], unfollowed := true, recurses := true, apart := false }
def OpsSplitSaid : Prop := opsSplitRow.holds Tryz.pinned (OpenSpec.ofChange opsSplitSpec)

/-- ITS FALSE NEIGHBOUR: 'it returns false'. Refute it at one input. -/
def opsSplitWrong : ChangeSpec := { name := "opsSplit", fn := fun _ => fun
  | [d1, d2, d3] => { results := [.lit (.bool false)], args := [d1, d2, d3] }
  | _ => none }
def OpsSplitWrongFalsely : Prop := opsSplitRow.holds Tryz.pinned (OpenSpec.ofChange opsSplitWrong)

/-- 'copyholdlaw11.OpsDoes': WHATEVER THE INPUT: true; the input reads as it did. -/
def opsDoesSpec : ChangeSpec := { name := "opsDoes", fn := fun _ => fun
  | [d1, d2, d3] => { results := [.lit (.bool true)], args := [d1, d2, d3] }
  | _ => none }
def opsDoesRow : OpenClaim := { program := "ytdnfnddlciafmaagreat", sum := "6efc0e51e9eff8e8e1748d343037fec2d7df77142268c38dbbf6fe1d94f465e5", func := "copyhold/copyholdlaw11.OpsDoes", spec := "opsDoes", inPlace := ["internal/bytealg.IndexByteString", "internal/bytealg.abigen_runtime_cmpstring", "slices.overlaps[copyhold/api.Node]", "slices.overlaps[copyhold/api.Entry]"], unfollowed := true, recurses := true, apart := false }
def OpsDoesSaid : Prop := opsDoesRow.holds Tryz.pinned (OpenSpec.ofChange opsDoesSpec)

/-- ITS FALSE NEIGHBOUR: 'it returns false'. Refute it at one input. -/
def opsDoesWrong : ChangeSpec := { name := "opsDoes", fn := fun _ => fun
  | [d1, d2, d3] => { results := [.lit (.bool false)], args := [d1, d2, d3] }
  | _ => none }
def OpsDoesWrongFalsely : Prop := opsDoesRow.holds Tryz.pinned (OpenSpec.ofChange opsDoesWrong)

/-- 'copyholdlaw11.OpsTouched': WHATEVER THE INPUT: true; the input reads as it did. -/
def opsTouchedSpec : ChangeSpec := { name := "opsTouched", fn := fun _ => fun
  | [d1, d2] => { results := [.lit (.bool true)], args := [d1, d2] }
  | _ => none }
def opsTouchedRow : OpenClaim := { program := "ytdnfnddlciafmaagreat", sum := "6efc0e51e9eff8e8e1748d343037fec2d7df77142268c38dbbf6fe1d94f465e5", func := "copyhold/copyholdlaw11.OpsTouched", spec := "opsTouched", inPlace := ["internal/bytealg.IndexByteString", "internal/bytealg.abigen_runtime_cmpstring", "slices.overlaps[copyhold/api.Node]", "slices.overlaps[copyhold/api.Entry]"], unfollowed := true, recurses := true, apart := false }
def OpsTouchedSaid : Prop := opsTouchedRow.holds Tryz.pinned (OpenSpec.ofChange opsTouchedSpec)

/-- ITS FALSE NEIGHBOUR: 'it returns false'. Refute it at one input. -/
def opsTouchedWrong : ChangeSpec := { name := "opsTouched", fn := fun _ => fun
  | [d1, d2] => { results := [.lit (.bool false)], args := [d1, d2] }
  | _ => none }
def OpsTouchedWrongFalsely : Prop := opsTouchedRow.holds Tryz.pinned (OpenSpec.ofChange opsTouchedWrong)

/-- 'copyholdlaw11.OpsApplies': WHATEVER THE INPUT: true; the input reads as it did. -/
def opsAppliesSpec : ChangeSpec := { name := "opsApplies", fn := fun _ => fun
  | [d1, d2] => { results := [.lit (.bool true)], args := [d1, d2] }
  | _ => none }
def opsAppliesRow : OpenClaim := { program := "ytdnfnddlciafmaagreat", sum := "6efc0e51e9eff8e8e1748d343037fec2d7df77142268c38dbbf6fe1d94f465e5", func := "copyhold/copyholdlaw11.OpsApplies", spec := "opsApplies", inPlace := ["internal/bytealg.IndexByteString", "internal/bytealg.abigen_runtime_cmpstring", "slices.overlaps[copyhold/api.Node]", "slices.overlaps[copyhold/api.Entry]"], unfollowed := true, recurses := true, apart := false }
def OpsAppliesSaid : Prop := opsAppliesRow.holds Tryz.pinned (OpenSpec.ofChange opsAppliesSpec)

/-- ITS FALSE NEIGHBOUR: 'it returns false'. Refute it at one input. -/
def opsAppliesWrong : ChangeSpec := { name := "opsApplies", fn := fun _ => fun
  | [d1, d2] => { results := [.lit (.bool false)], args := [d1, d2] }
  | _ => none }
def OpsAppliesWrongFalsely : Prop := opsAppliesRow.holds Tryz.pinned (OpenSpec.ofChange opsAppliesWrong)

/-- 'copyholdlaw11.OpsPlays': WHATEVER THE INPUT: true; the input reads as it did. -/
def opsPlaysSpec : ChangeSpec := { name := "opsPlays", fn := fun _ => fun
  | [d] => { results := [.lit (.bool true)], args := [d] }
  | _ => none }
def opsPlaysRow : OpenClaim := { program := "ytdnfnddlciafmaagreat", sum := "6efc0e51e9eff8e8e1748d343037fec2d7df77142268c38dbbf6fe1d94f465e5", func := "copyhold/copyholdlaw11.OpsPlays", spec := "opsPlays", inPlace := ["internal/bytealg.IndexByteString", "internal/bytealg.abigen_runtime_cmpstring", "slices.overlaps[copyhold/api.Node]", "slices.overlaps[copyhold/api.Entry]"], unfollowed := true, recurses := true, apart := false }
def OpsPlaysSaid : Prop := opsPlaysRow.holds Tryz.pinned (OpenSpec.ofChange opsPlaysSpec)

/-- ITS FALSE NEIGHBOUR: 'it returns false'. Refute it at one input. -/
def opsPlaysWrong : ChangeSpec := { name := "opsPlays", fn := fun _ => fun
  | [d] => { results := [.lit (.bool false)], args := [d] }
  | _ => none }
def OpsPlaysWrongFalsely : Prop := opsPlaysRow.holds Tryz.pinned (OpenSpec.ofChange opsPlaysWrong)

/-- 'copyholdlaw13.TransCommits': WHATEVER THE INPUT: true; the input reads as it did. -/
def transCommitsSpec : ChangeSpec := { name := "transCommits", fn := fun _ => fun
  | [d1, d2, d3] => { results := [.lit (.bool true)], args := [d1, d2, d3] }
  | _ => none }
def transCommitsRow : OpenClaim := { program := "ytdnfnddlciafmaagreat", sum := "6efc0e51e9eff8e8e1748d343037fec2d7df77142268c38dbbf6fe1d94f465e5", func := "copyhold/copyholdlaw13.TransCommits", spec := "transCommits", inPlace := ["internal/bytealg.abigen_runtime_cmpstring", "internal/bytealg.IndexByteString", "slices.overlaps[copyhold/api.Node]", "slices.overlaps[copyhold/api.Entry]", "slices.overlaps[copyhold/api.Chain]"], unfollowed := true, recurses := true, apart := false }
def TransCommitsSaid : Prop := transCommitsRow.holds Tryz.pinned (OpenSpec.ofChange transCommitsSpec)

/-- ITS FALSE NEIGHBOUR: 'it returns false'. Refute it at one input. -/
def transCommitsWrong : ChangeSpec := { name := "transCommits", fn := fun _ => fun
  | [d1, d2, d3] => { results := [.lit (.bool false)], args := [d1, d2, d3] }
  | _ => none }
def TransCommitsWrongFalsely : Prop := transCommitsRow.holds Tryz.pinned (OpenSpec.ofChange transCommitsWrong)

/-- 'copyholdlaw13.TransSerial': WHATEVER THE INPUT: true; the input reads as it did. -/
def transSerialSpec : ChangeSpec := { name := "transSerial", fn := fun _ => fun
  | [d1, d2, d3] => { results := [.lit (.bool true)], args := [d1, d2, d3] }
  | _ => none }
def transSerialRow : OpenClaim := { program := "ytdnfnddlciafmaagreat", sum := "6efc0e51e9eff8e8e1748d343037fec2d7df77142268c38dbbf6fe1d94f465e5", func := "copyhold/copyholdlaw13.TransSerial", spec := "transSerial", inPlace := ["internal/bytealg.abigen_runtime_cmpstring", "internal/bytealg.IndexByteString", "slices.overlaps[copyhold/api.Node]", "slices.overlaps[copyhold/api.Entry]", "slices.overlaps[copyhold/api.Chain]"], unfollowed := true, recurses := true, apart := false }
def TransSerialSaid : Prop := transSerialRow.holds Tryz.pinned (OpenSpec.ofChange transSerialSpec)

/-- ITS FALSE NEIGHBOUR: 'it returns false'. Refute it at one input. -/
def transSerialWrong : ChangeSpec := { name := "transSerial", fn := fun _ => fun
  | [d1, d2, d3] => { results := [.lit (.bool false)], args := [d1, d2, d3] }
  | _ => none }
def TransSerialWrongFalsely : Prop := transSerialRow.holds Tryz.pinned (OpenSpec.ofChange transSerialWrong)

/-- 'copyholdlaw13.TransStays': WHATEVER THE INPUT: true; the input reads as it did. -/
def transStaysSpec : ChangeSpec := { name := "transStays", fn := fun _ => fun
  | [d1, d2, d3] => { results := [.lit (.bool true)], args := [d1, d2, d3] }
  | _ => none }
def transStaysRow : OpenClaim := { program := "ytdnfnddlciafmaagreat", sum := "6efc0e51e9eff8e8e1748d343037fec2d7df77142268c38dbbf6fe1d94f465e5", func := "copyhold/copyholdlaw13.TransStays", spec := "transStays", inPlace := ["internal/bytealg.abigen_runtime_cmpstring", "internal/bytealg.IndexByteString", "slices.overlaps[copyhold/api.Node]", "slices.overlaps[copyhold/api.Entry]", "slices.overlaps[copyhold/api.Chain]"], unfollowed := true, recurses := true, apart := false }
def TransStaysSaid : Prop := transStaysRow.holds Tryz.pinned (OpenSpec.ofChange transStaysSpec)

/-- ITS FALSE NEIGHBOUR: 'it returns false'. Refute it at one input. -/
def transStaysWrong : ChangeSpec := { name := "transStays", fn := fun _ => fun
  | [d1, d2, d3] => { results := [.lit (.bool false)], args := [d1, d2, d3] }
  | _ => none }
def TransStaysWrongFalsely : Prop := transStaysRow.holds Tryz.pinned (OpenSpec.ofChange transStaysWrong)

/-- 'copyholdlaw13.TransFresh': WHATEVER THE INPUT: true; the input reads as it did. -/
def transFreshSpec : ChangeSpec := { name := "transFresh", fn := fun _ => fun
  | [d1, d2] => { results := [.lit (.bool true)], args := [d1, d2] }
  | _ => none }
def transFreshRow : OpenClaim := { program := "ytdnfnddlciafmaagreat", sum := "6efc0e51e9eff8e8e1748d343037fec2d7df77142268c38dbbf6fe1d94f465e5", func := "copyhold/copyholdlaw13.TransFresh", spec := "transFresh", inPlace := ["internal/bytealg.abigen_runtime_cmpstring", "internal/bytealg.IndexByteString", "slices.overlaps[copyhold/api.Node]", "slices.overlaps[copyhold/api.Entry]", "slices.overlaps[copyhold/api.Chain]"], unfollowed := true, recurses := true, apart := false }
def TransFreshSaid : Prop := transFreshRow.holds Tryz.pinned (OpenSpec.ofChange transFreshSpec)

/-- ITS FALSE NEIGHBOUR: 'it returns false'. Refute it at one input. -/
def transFreshWrong : ChangeSpec := { name := "transFresh", fn := fun _ => fun
  | [d1, d2] => { results := [.lit (.bool false)], args := [d1, d2] }
  | _ => none }
def TransFreshWrongFalsely : Prop := transFreshRow.holds Tryz.pinned (OpenSpec.ofChange transFreshWrong)

/-- 'copyholdlaw13.TransIdle': WHATEVER THE INPUT: true; the input reads as it did. -/
def transIdleSpec : ChangeSpec := { name := "transIdle", fn := fun _ => fun
  | [d1, d2, d3] => { results := [.lit (.bool true)], args := [d1, d2, d3] }
  | _ => none }
def transIdleRow : OpenClaim := { program := "ytdnfnddlciafmaagreat", sum := "6efc0e51e9eff8e8e1748d343037fec2d7df77142268c38dbbf6fe1d94f465e5", func := "copyhold/copyholdlaw13.TransIdle", spec := "transIdle", inPlace := ["internal/bytealg.abigen_runtime_cmpstring", "internal/bytealg.IndexByteString", "slices.overlaps[copyhold/api.Node]", "slices.overlaps[copyhold/api.Entry]", "slices.overlaps[copyhold/api.Chain]"], unfollowed := true, recurses := true, apart := false }
def TransIdleSaid : Prop := transIdleRow.holds Tryz.pinned (OpenSpec.ofChange transIdleSpec)

/-- ITS FALSE NEIGHBOUR: 'it returns false'. Refute it at one input. -/
def transIdleWrong : ChangeSpec := { name := "transIdle", fn := fun _ => fun
  | [d1, d2, d3] => { results := [.lit (.bool false)], args := [d1, d2, d3] }
  | _ => none }
def TransIdleWrongFalsely : Prop := transIdleRow.holds Tryz.pinned (OpenSpec.ofChange transIdleWrong)

/-- 'copyholdlaw13.TransApart': WHATEVER THE INPUT: true; the input reads as it did. -/
def transApartSpec : ChangeSpec := { name := "transApart", fn := fun _ => fun
  | [d1, d2, d3] => { results := [.lit (.bool true)], args := [d1, d2, d3] }
  | _ => none }
def transApartRow : OpenClaim := { program := "ytdnfnddlciafmaagreat", sum := "6efc0e51e9eff8e8e1748d343037fec2d7df77142268c38dbbf6fe1d94f465e5", func := "copyhold/copyholdlaw13.TransApart", spec := "transApart", inPlace := ["internal/bytealg.abigen_runtime_cmpstring", "internal/bytealg.IndexByteString", "slices.overlaps[copyhold/api.Node]", "slices.overlaps[copyhold/api.Entry]", "slices.overlaps[copyhold/api.Chain]"], unfollowed := true, recurses := true, apart := false }
def TransApartSaid : Prop := transApartRow.holds Tryz.pinned (OpenSpec.ofChange transApartSpec)

/-- ITS FALSE NEIGHBOUR: 'it returns false'. Refute it at one input. -/
def transApartWrong : ChangeSpec := { name := "transApart", fn := fun _ => fun
  | [d1, d2, d3] => { results := [.lit (.bool false)], args := [d1, d2, d3] }
  | _ => none }
def TransApartWrongFalsely : Prop := transApartRow.holds Tryz.pinned (OpenSpec.ofChange transApartWrong)

/-- 'copyholdlaw13.TransSees': WHATEVER THE INPUT: true; the input reads as it did. -/
def transSeesSpec : ChangeSpec := { name := "transSees", fn := fun _ => fun
  | [d] => { results := [.lit (.bool true)], args := [d] }
  | _ => none }
def transSeesRow : OpenClaim := { program := "ytdnfnddlciafmaagreat", sum := "6efc0e51e9eff8e8e1748d343037fec2d7df77142268c38dbbf6fe1d94f465e5", func := "copyhold/copyholdlaw13.TransSees", spec := "transSees", inPlace := ["internal/bytealg.abigen_runtime_cmpstring", "internal/bytealg.IndexByteString", "slices.overlaps[copyhold/api.Node]", "slices.overlaps[copyhold/api.Entry]", "slices.overlaps[copyhold/api.Chain]"], unfollowed := true, recurses := true, apart := false }
def TransSeesSaid : Prop := transSeesRow.holds Tryz.pinned (OpenSpec.ofChange transSeesSpec)

/-- ITS FALSE NEIGHBOUR: 'it returns false'. Refute it at one input. -/
def transSeesWrong : ChangeSpec := { name := "transSees", fn := fun _ => fun
  | [d] => { results := [.lit (.bool false)], args := [d] }
  | _ => none }
def TransSeesWrongFalsely : Prop := transSeesRow.holds Tryz.pinned (OpenSpec.ofChange transSeesWrong)

/-- 'copyholdlaw13.TransSteps': WHATEVER THE INPUT: true; the input reads as it did. -/
def transStepsSpec : ChangeSpec := { name := "transSteps", fn := fun _ => fun
  | [d] => { results := [.lit (.bool true)], args := [d] }
  | _ => none }
def transStepsRow : OpenClaim := { program := "ytdnfnddlciafmaagreat", sum := "6efc0e51e9eff8e8e1748d343037fec2d7df77142268c38dbbf6fe1d94f465e5", func := "copyhold/copyholdlaw13.TransSteps", spec := "transSteps", inPlace := ["internal/bytealg.abigen_runtime_cmpstring", "internal/bytealg.IndexByteString", "slices.overlaps[copyhold/api.Node]", "slices.overlaps[copyhold/api.Entry]", "slices.overlaps[copyhold/api.Chain]"], unfollowed := true, recurses := true, apart := false }
def TransStepsSaid : Prop := transStepsRow.holds Tryz.pinned (OpenSpec.ofChange transStepsSpec)

/-- ITS FALSE NEIGHBOUR: 'it returns false'. Refute it at one input. -/
def transStepsWrong : ChangeSpec := { name := "transSteps", fn := fun _ => fun
  | [d] => { results := [.lit (.bool false)], args := [d] }
  | _ => none }
def TransStepsWrongFalsely : Prop := transStepsRow.holds Tryz.pinned (OpenSpec.ofChange transStepsWrong)

/- THE SECOND FORM. 'bulk': how many values and letters a reading holds, each counted each time it is reached (what is shared counts as often as it is met; a slice's spare places count too). A statement '..UptoSaid' is the law's where the arguments, and the package variables that the reading takes, are together of bulk at most 1048576: NARROWER than '..Said'. Prove '..Said' where nothing that the law and all that it calls make is longer than what came in: it says more and counts as full. Else prove '..UptoSaid'. A law counts once. -/
mutual
def uptoBulk {H : Type} : DataW H → Nat
  | .lit (.string bytes) => bytes.length + 1
  | .lit _ => 1
  | .nil => 1
  | .ptr d => uptoBulk d + 1
  | .slice elems spare => uptoBulkAll elems + uptoBulkAll spare + 1
  | .agg parts => uptoBulkAll parts + 1
  | .iface _ d => uptoBulk d + 1
  | .map entries => uptoBulkEntries entries + 1
  | .held _ => 1
def uptoBulkAll {H : Type} : List (DataW H) → Nat
  | [] => 0
  | d :: r => uptoBulk d + uptoBulkAll r
def uptoBulkEntries {H : Type} : List (Lit × DataW H) → Nat
  | [] => 0
  | x :: r => uptoBulkEntry x + uptoBulkEntries r
def uptoBulkEntry {H : Type} : Lit × DataW H → Nat
  | (.string bytes, d) => bytes.length + uptoBulk d + 1
  | (_, d) => uptoBulk d + 1
 end
def uptoSmall : (H : Type) → List (DataW H) → Bool := fun _ ds => decide (uptoBulkAll ds ≤ 1048576)
def OpenSpec.upto (s : _root_.Go.ChangeSpec) : _root_.Go.OpenSpec := { _root_.Go.OpenSpec.ofChange s with cond := some uptoSmall }

/-- 'copyholdlaw11.OpsStays', WHERE WHAT IT READS IS OF BULK AT MOST 1048576: true; the input reads as it did. -/
def opsStaysUptoRow : OpenClaim := { program := "ytdnfnddlciafmaagreat", sum := "6efc0e51e9eff8e8e1748d343037fec2d7df77142268c38dbbf6fe1d94f465e5", func := "copyhold/copyholdlaw11.OpsStays", spec := "opsStays", inPlace := ["internal/bytealg.IndexByteString", "internal/bytealg.abigen_runtime_cmpstring", "slices.overlaps[copyhold/api.Node]", "slices.overlaps[copyhold/api.Entry]"], unfollowed := true, recurses := true, apart := false, narrowed := true }
def OpsStaysUptoSaid : Prop := opsStaysUptoRow.holds Tryz.pinned (OpenSpec.upto opsStaysSpec)

/-- 'copyholdlaw11.OpsReads', WHERE WHAT IT READS IS OF BULK AT MOST 1048576: true; the input reads as it did. -/
def opsReadsUptoRow : OpenClaim := { program := "ytdnfnddlciafmaagreat", sum := "6efc0e51e9eff8e8e1748d343037fec2d7df77142268c38dbbf6fe1d94f465e5", func := "copyhold/copyholdlaw11.OpsReads", spec := "opsReads", inPlace := ["internal/bytealg.IndexByteString", "internal/bytealg.abigen_runtime_cmpstring", "slices.overlaps[copyhold/api.Node]", "slices.overlaps[copyhold/api.Entry]"], unfollowed := true, recurses := true, apart := false, narrowed := true }
def OpsReadsUptoSaid : Prop := opsReadsUptoRow.holds Tryz.pinned (OpenSpec.upto opsReadsSpec)

/-- 'copyholdlaw11.OpsHangs', WHERE WHAT IT READS IS OF BULK AT MOST 1048576: true; the input reads as it did. -/
def opsHangsUptoRow : OpenClaim := { program := "ytdnfnddlciafmaagreat", sum := "6efc0e51e9eff8e8e1748d343037fec2d7df77142268c38dbbf6fe1d94f465e5", func := "copyhold/copyholdlaw11.OpsHangs", spec := "opsHangs", inPlace := ["internal/bytealg.IndexByteString", "internal/bytealg.abigen_runtime_cmpstring", "slices.overlaps[copyhold/api.Node]", "slices.overlaps[copyhold/api.Entry]"], unfollowed := true, recurses := true, apart := false, narrowed := true }
def OpsHangsUptoSaid : Prop := opsHangsUptoRow.holds Tryz.pinned (OpenSpec.upto opsHangsSpec)

/-- 'copyholdlaw11.OpsSplit', WHERE WHAT IT READS IS OF BULK AT MOST 1048576: true; the input reads as it did. -/
def opsSplitUptoRow : OpenClaim := { program := "ytdnfnddlciafmaagreat", sum := "6efc0e51e9eff8e8e1748d343037fec2d7df77142268c38dbbf6fe1d94f465e5", func := "copyhold/copyholdlaw11.OpsSplit", spec := "opsSplit", inPlace := ["internal/bytealg.IndexByteString", "internal/bytealg.abigen_runtime_cmpstring", "slices.overlaps[copyhold/api.Node]", "slices.overlaps[copyhold/api.Entry]"], unfollowed := true, recurses := true, apart := false, narrowed := true }
def OpsSplitUptoSaid : Prop := opsSplitUptoRow.holds Tryz.pinned (OpenSpec.upto opsSplitSpec)

/-- 'copyholdlaw11.OpsDoes', WHERE WHAT IT READS IS OF BULK AT MOST 1048576: true; the input reads as it did. -/
def opsDoesUptoRow : OpenClaim := { program := "ytdnfnddlciafmaagreat", sum := "6efc0e51e9eff8e8e1748d343037fec2d7df77142268c38dbbf6fe1d94f465e5", func := "copyhold/copyholdlaw11.OpsDoes", spec := "opsDoes", inPlace := ["internal/bytealg.IndexByteString", "internal/bytealg.abigen_runtime_cmpstring", "slices.overlaps[copyhold/api.Node]", "slices.overlaps[copyhold/api.Entry]"], unfollowed := true, recurses := true, apart := false, narrowed := true }
def OpsDoesUptoSaid : Prop := opsDoesUptoRow.holds Tryz.pinned (OpenSpec.upto opsDoesSpec)

/-- 'copyholdlaw11.OpsTouched', WHERE WHAT IT READS IS OF BULK AT MOST 1048576: true; the input reads as it did. -/
def opsTouchedUptoRow : OpenClaim := { program := "ytdnfnddlciafmaagreat", sum := "6efc0e51e9eff8e8e1748d343037fec2d7df77142268c38dbbf6fe1d94f465e5", func := "copyhold/copyholdlaw11.OpsTouched", spec := "opsTouched", inPlace := ["internal/bytealg.IndexByteString", "internal/bytealg.abigen_runtime_cmpstring", "slices.overlaps[copyhold/api.Node]", "slices.overlaps[copyhold/api.Entry]"], unfollowed := true, recurses := true, apart := false, narrowed := true }
def OpsTouchedUptoSaid : Prop := opsTouchedUptoRow.holds Tryz.pinned (OpenSpec.upto opsTouchedSpec)

/-- 'copyholdlaw11.OpsApplies', WHERE WHAT IT READS IS OF BULK AT MOST 1048576: true; the input reads as it did. -/
def opsAppliesUptoRow : OpenClaim := { program := "ytdnfnddlciafmaagreat", sum := "6efc0e51e9eff8e8e1748d343037fec2d7df77142268c38dbbf6fe1d94f465e5", func := "copyhold/copyholdlaw11.OpsApplies", spec := "opsApplies", inPlace := ["internal/bytealg.IndexByteString", "internal/bytealg.abigen_runtime_cmpstring", "slices.overlaps[copyhold/api.Node]", "slices.overlaps[copyhold/api.Entry]"], unfollowed := true, recurses := true, apart := false, narrowed := true }
def OpsAppliesUptoSaid : Prop := opsAppliesUptoRow.holds Tryz.pinned (OpenSpec.upto opsAppliesSpec)

/-- 'copyholdlaw11.OpsPlays', WHERE WHAT IT READS IS OF BULK AT MOST 1048576: true; the input reads as it did. -/
def opsPlaysUptoRow : OpenClaim := { program := "ytdnfnddlciafmaagreat", sum := "6efc0e51e9eff8e8e1748d343037fec2d7df77142268c38dbbf6fe1d94f465e5", func := "copyhold/copyholdlaw11.OpsPlays", spec := "opsPlays", inPlace := ["internal/bytealg.IndexByteString", "internal/bytealg.abigen_runtime_cmpstring", "slices.overlaps[copyhold/api.Node]", "slices.overlaps[copyhold/api.Entry]"], unfollowed := true, recurses := true, apart := false, narrowed := true }
def OpsPlaysUptoSaid : Prop := opsPlaysUptoRow.holds Tryz.pinned (OpenSpec.upto opsPlaysSpec)

/-- 'copyholdlaw13.TransCommits', WHERE WHAT IT READS IS OF BULK AT MOST 1048576: true; the input reads as it did. -/
def transCommitsUptoRow : OpenClaim := { program := "ytdnfnddlciafmaagreat", sum := "6efc0e51e9eff8e8e1748d343037fec2d7df77142268c38dbbf6fe1d94f465e5", func := "copyhold/copyholdlaw13.TransCommits", spec := "transCommits", inPlace := ["internal/bytealg.abigen_runtime_cmpstring", "internal/bytealg.IndexByteString", "slices.overlaps[copyhold/api.Node]", "slices.overlaps[copyhold/api.Entry]", "slices.overlaps[copyhold/api.Chain]"], unfollowed := true, recurses := true, apart := false, narrowed := true }
def TransCommitsUptoSaid : Prop := transCommitsUptoRow.holds Tryz.pinned (OpenSpec.upto transCommitsSpec)

/-- 'copyholdlaw13.TransSerial', WHERE WHAT IT READS IS OF BULK AT MOST 1048576: true; the input reads as it did. -/
def transSerialUptoRow : OpenClaim := { program := "ytdnfnddlciafmaagreat", sum := "6efc0e51e9eff8e8e1748d343037fec2d7df77142268c38dbbf6fe1d94f465e5", func := "copyhold/copyholdlaw13.TransSerial", spec := "transSerial", inPlace := ["internal/bytealg.abigen_runtime_cmpstring", "internal/bytealg.IndexByteString", "slices.overlaps[copyhold/api.Node]", "slices.overlaps[copyhold/api.Entry]", "slices.overlaps[copyhold/api.Chain]"], unfollowed := true, recurses := true, apart := false, narrowed := true }
def TransSerialUptoSaid : Prop := transSerialUptoRow.holds Tryz.pinned (OpenSpec.upto transSerialSpec)

/-- 'copyholdlaw13.TransStays', WHERE WHAT IT READS IS OF BULK AT MOST 1048576: true; the input reads as it did. -/
def transStaysUptoRow : OpenClaim := { program := "ytdnfnddlciafmaagreat", sum := "6efc0e51e9eff8e8e1748d343037fec2d7df77142268c38dbbf6fe1d94f465e5", func := "copyhold/copyholdlaw13.TransStays", spec := "transStays", inPlace := ["internal/bytealg.abigen_runtime_cmpstring", "internal/bytealg.IndexByteString", "slices.overlaps[copyhold/api.Node]", "slices.overlaps[copyhold/api.Entry]", "slices.overlaps[copyhold/api.Chain]"], unfollowed := true, recurses := true, apart := false, narrowed := true }
def TransStaysUptoSaid : Prop := transStaysUptoRow.holds Tryz.pinned (OpenSpec.upto transStaysSpec)

/-- 'copyholdlaw13.TransFresh', WHERE WHAT IT READS IS OF BULK AT MOST 1048576: true; the input reads as it did. -/
def transFreshUptoRow : OpenClaim := { program := "ytdnfnddlciafmaagreat", sum := "6efc0e51e9eff8e8e1748d343037fec2d7df77142268c38dbbf6fe1d94f465e5", func := "copyhold/copyholdlaw13.TransFresh", spec := "transFresh", inPlace := ["internal/bytealg.abigen_runtime_cmpstring", "internal/bytealg.IndexByteString", "slices.overlaps[copyhold/api.Node]", "slices.overlaps[copyhold/api.Entry]", "slices.overlaps[copyhold/api.Chain]"], unfollowed := true, recurses := true, apart := false, narrowed := true }
def TransFreshUptoSaid : Prop := transFreshUptoRow.holds Tryz.pinned (OpenSpec.upto transFreshSpec)

/-- 'copyholdlaw13.TransIdle', WHERE WHAT IT READS IS OF BULK AT MOST 1048576: true; the input reads as it did. -/
def transIdleUptoRow : OpenClaim := { program := "ytdnfnddlciafmaagreat", sum := "6efc0e51e9eff8e8e1748d343037fec2d7df77142268c38dbbf6fe1d94f465e5", func := "copyhold/copyholdlaw13.TransIdle", spec := "transIdle", inPlace := ["internal/bytealg.abigen_runtime_cmpstring", "internal/bytealg.IndexByteString", "slices.overlaps[copyhold/api.Node]", "slices.overlaps[copyhold/api.Entry]", "slices.overlaps[copyhold/api.Chain]"], unfollowed := true, recurses := true, apart := false, narrowed := true }
def TransIdleUptoSaid : Prop := transIdleUptoRow.holds Tryz.pinned (OpenSpec.upto transIdleSpec)

/-- 'copyholdlaw13.TransApart', WHERE WHAT IT READS IS OF BULK AT MOST 1048576: true; the input reads as it did. -/
def transApartUptoRow : OpenClaim := { program := "ytdnfnddlciafmaagreat", sum := "6efc0e51e9eff8e8e1748d343037fec2d7df77142268c38dbbf6fe1d94f465e5", func := "copyhold/copyholdlaw13.TransApart", spec := "transApart", inPlace := ["internal/bytealg.abigen_runtime_cmpstring", "internal/bytealg.IndexByteString", "slices.overlaps[copyhold/api.Node]", "slices.overlaps[copyhold/api.Entry]", "slices.overlaps[copyhold/api.Chain]"], unfollowed := true, recurses := true, apart := false, narrowed := true }
def TransApartUptoSaid : Prop := transApartUptoRow.holds Tryz.pinned (OpenSpec.upto transApartSpec)

/-- 'copyholdlaw13.TransSees', WHERE WHAT IT READS IS OF BULK AT MOST 1048576: true; the input reads as it did. -/
def transSeesUptoRow : OpenClaim := { program := "ytdnfnddlciafmaagreat", sum := "6efc0e51e9eff8e8e1748d343037fec2d7df77142268c38dbbf6fe1d94f465e5", func := "copyhold/copyholdlaw13.TransSees", spec := "transSees", inPlace := ["internal/bytealg.abigen_runtime_cmpstring", "internal/bytealg.IndexByteString", "slices.overlaps[copyhold/api.Node]", "slices.overlaps[copyhold/api.Entry]", "slices.overlaps[copyhold/api.Chain]"], unfollowed := true, recurses := true, apart := false, narrowed := true }
def TransSeesUptoSaid : Prop := transSeesUptoRow.holds Tryz.pinned (OpenSpec.upto transSeesSpec)

/-- 'copyholdlaw13.TransSteps', WHERE WHAT IT READS IS OF BULK AT MOST 1048576: true; the input reads as it did. -/
def transStepsUptoRow : OpenClaim := { program := "ytdnfnddlciafmaagreat", sum := "6efc0e51e9eff8e8e1748d343037fec2d7df77142268c38dbbf6fe1d94f465e5", func := "copyhold/copyholdlaw13.TransSteps", spec := "transSteps", inPlace := ["internal/bytealg.abigen_runtime_cmpstring", "internal/bytealg.IndexByteString", "slices.overlaps[copyhold/api.Node]", "slices.overlaps[copyhold/api.Entry]", "slices.overlaps[copyhold/api.Chain]"], unfollowed := true, recurses := true, apart := false, narrowed := true }
def TransStepsUptoSaid : Prop := transStepsUptoRow.holds Tryz.pinned (OpenSpec.upto transStepsSpec)

end Rows
end Go.Proofs.YtdnfnddlciafmaaGreat
