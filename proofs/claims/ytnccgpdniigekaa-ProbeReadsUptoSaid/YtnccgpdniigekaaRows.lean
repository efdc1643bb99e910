/-
  No cell of these rows narrows 'for every input' (looked for: loops, veiled, ifaces, maps, wideKeys, modest, calm, conditions, laid).
  DERIVED. THE GIVEN ROWS OF THIS SEAT. 13 by the template 'for every input the law returns true; each argument reads behind the call as it read before'; 0 by the template 'total and deterministic' (their statements: YtnccgpdniigekaaTotals.lean).
  GIVEN WITH THE SEED: the statements are not yours to turn. If you find one false, say at which input.
  Laid BY PROGRAM, IN A SANDBOX (cutbox-rows.mjs): the forced cells as the released guide's own fill.sh prints them over the translation 58a7067db9c79d5a… (all of the seat's roots in one cut). By AI agents, Wed Nov 11 2026. No macro, syntax, notation, axiom, sorry.
-/
import Derived.Test.YtnccgpdniigekaaChecked
import GoSem.Claim
import GoSem.ClaimJoined
import GoSem.ClaimMapViews
import Derived.JoinedTies
import Derived.KernelRfl
namespace Go.Proofs.Ytnccgpdniigekaa
/- THE CELL 'sum', in the pinned program and in every row, IS THE sha256 OF THE DUMP (.gsa) THAT YtnccgpdniigekaaProg.lean LOADS. Nothing in Lean hashes anything: it is a label: what it is worth is what the hold of that sum in a sandbox is worth. -/
noncomputable def Try.pinned : Pinned := { name := "ytnccgpdniigekaa", sum := "58a7067db9c79d5a490ed95bfcadabe3ac343fd797c43d6c5db8ba136c3b6736", checked := Try.checked }
namespace Rows
def none {H : Type} : Left H := { results := [], args := [] }

/-- 'inclinelaw08.LevelsBuild': WHATEVER THE INPUT: true; the input reads as it did. -/
def levelsBuildSpec : ChangeSpec := { name := "levelsBuild", fn := fun _ => fun
  | [d1, d2] => { results := [.lit (.bool true)], args := [d1, d2] }
  | _ => none }
def levelsBuildRow : OpenClaim := { program := "ytnccgpdniigekaa", sum := "58a7067db9c79d5a490ed95bfcadabe3ac343fd797c43d6c5db8ba136c3b6736", func := "incline/inclinelaw08.LevelsBuild", spec := "levelsBuild", inPlace := ["math.Float64bits", "math.Float64frombits", "math.archFloor", "math.archTrunc"], unfollowed := true, recurses := true, named := ["math/bits.divideError", "math/bits.overflowError"], apart := false }
def LevelsBuildSaid : Prop := levelsBuildRow.holds Try.pinned (OpenSpec.ofChange levelsBuildSpec)

/-- ITS FALSE NEIGHBOUR: 'it returns false'. Refute it at one input. -/
def levelsBuildWrong : ChangeSpec := { name := "levelsBuild", fn := fun _ => fun
  | [d1, d2] => { results := [.lit (.bool false)], args := [d1, d2] }
  | _ => none }
def LevelsBuildWrongFalsely : Prop := levelsBuildRow.holds Try.pinned (OpenSpec.ofChange levelsBuildWrong)

/-- 'inclinelaw08.LevelsChecks': WHATEVER THE INPUT: true; the input reads as it did. -/
def levelsChecksSpec : ChangeSpec := { name := "levelsChecks", fn := fun _ => fun
  | [d1, d2, d3] => { results := [.lit (.bool true)], args := [d1, d2, d3] }
  | _ => none }
def levelsChecksRow : OpenClaim := { program := "ytnccgpdniigekaa", sum := "58a7067db9c79d5a490ed95bfcadabe3ac343fd797c43d6c5db8ba136c3b6736", func := "incline/inclinelaw08.LevelsChecks", spec := "levelsChecks", inPlace := ["math.Float64bits", "math.Float64frombits", "math.archFloor", "math.archTrunc"], unfollowed := true, recurses := true, named := ["math/bits.divideError", "math/bits.overflowError"], apart := false }
def LevelsChecksSaid : Prop := levelsChecksRow.holds Try.pinned (OpenSpec.ofChange levelsChecksSpec)

/-- ITS FALSE NEIGHBOUR: 'it returns false'. Refute it at one input. -/
def levelsChecksWrong : ChangeSpec := { name := "levelsChecks", fn := fun _ => fun
  | [d1, d2, d3] => { results := [.lit (.bool false)], args := [d1, d2, d3] }
  | _ => none }
def LevelsChecksWrongFalsely : Prop := levelsChecksRow.holds Try.pinned (OpenSpec.ofChange levelsChecksWrong)

/-- 'inclinelaw08.LevelsHeights': WHATEVER THE INPUT: true; the input reads as it did. -/
def levelsHeightsSpec : ChangeSpec := { name := "levelsHeights", fn := fun _ => fun
  | [d1, d2] => { results := [.lit (.bool true)], args := [d1, d2] }
  | _ => none }
def levelsHeightsRow : OpenClaim := { program := "ytnccgpdniigekaa", sum := "58a7067db9c79d5a490ed95bfcadabe3ac343fd797c43d6c5db8ba136c3b6736", func := "incline/inclinelaw08.LevelsHeights", spec := "levelsHeights", inPlace := ["math.Float64bits", "math.Float64frombits", "math.archFloor", "math.archTrunc"], unfollowed := true, recurses := true, named := ["math/bits.divideError", "math/bits.overflowError"], apart := false }
def LevelsHeightsSaid : Prop := levelsHeightsRow.holds Try.pinned (OpenSpec.ofChange levelsHeightsSpec)

/-- ITS FALSE NEIGHBOUR: 'it returns false'. Refute it at one input. -/
def levelsHeightsWrong : ChangeSpec := { name := "levelsHeights", fn := fun _ => fun
  | [d1, d2] => { results := [.lit (.bool false)], args := [d1, d2] }
  | _ => none }
def LevelsHeightsWrongFalsely : Prop := levelsHeightsRow.holds Try.pinned (OpenSpec.ofChange levelsHeightsWrong)

/-- 'inclinelaw08.LevelsRight': WHATEVER THE INPUT: true; the input reads as it did. -/
def levelsRightSpec : ChangeSpec := { name := "levelsRight", fn := fun _ => fun
  | [d1, d2] => { results := [.lit (.bool true)], args := [d1, d2] }
  | _ => none }
def levelsRightRow : OpenClaim := { program := "ytnccgpdniigekaa", sum := "58a7067db9c79d5a490ed95bfcadabe3ac343fd797c43d6c5db8ba136c3b6736", func := "incline/inclinelaw08.LevelsRight", spec := "levelsRight", inPlace := ["math.Float64bits", "math.Float64frombits", "math.archFloor", "math.archTrunc"], unfollowed := true, recurses := true, named := ["math/bits.divideError", "math/bits.overflowError"], apart := false }
def LevelsRightSaid : Prop := levelsRightRow.holds Try.pinned (OpenSpec.ofChange levelsRightSpec)

/-- ITS FALSE NEIGHBOUR: 'it returns false'. Refute it at one input. -/
def levelsRightWrong : ChangeSpec := { name := "levelsRight", fn := fun _ => fun
  | [d1, d2] => { results := [.lit (.bool false)], args := [d1, d2] }
  | _ => none }
def LevelsRightWrongFalsely : Prop := levelsRightRow.holds Try.pinned (OpenSpec.ofChange levelsRightWrong)

/-- 'inclinelaw08.LevelsFew': WHATEVER THE INPUT: true; the input reads as it did. -/
def levelsFewSpec : ChangeSpec := { name := "levelsFew", fn := fun _ => fun
  | [d1, d2] => { results := [.lit (.bool true)], args := [d1, d2] }
  | _ => none }
def levelsFewRow : OpenClaim := { program := "ytnccgpdniigekaa", sum := "58a7067db9c79d5a490ed95bfcadabe3ac343fd797c43d6c5db8ba136c3b6736", func := "incline/inclinelaw08.LevelsFew", spec := "levelsFew", inPlace := ["math.Float64bits", "math.Float64frombits", "math.archFloor", "math.archTrunc"], unfollowed := true, recurses := true, named := ["math/bits.divideError", "math/bits.overflowError"], apart := false }
def LevelsFewSaid : Prop := levelsFewRow.holds Try.pinned (OpenSpec.ofChange levelsFewSpec)

/-- ITS FALSE NEIGHBOUR: 'it returns false'. Refute it at one input. -/
def levelsFewWrong : ChangeSpec := { name := "levelsFew", fn := fun _ => fun
  | [d1, d2] => { results := [.lit (.bool false)], args := [d1, d2] }
  | _ => none }
def LevelsFewWrongFalsely : Prop := levelsFewRow.holds Try.pinned (OpenSpec.ofChange levelsFewWrong)

/-- 'inclinelaw08.LevelsNear': WHATEVER THE INPUT: true; the input reads as it did. -/
def levelsNearSpec : ChangeSpec := { name := "levelsNear", fn := fun _ => fun
  | [d1, d2, d3, d4] => { results := [.lit (.bool true)], args := [d1, d2, d3, d4] }
  | _ => none }
def levelsNearRow : OpenClaim := { program := "ytnccgpdniigekaa", sum := "58a7067db9c79d5a490ed95bfcadabe3ac343fd797c43d6c5db8ba136c3b6736", func := "incline/inclinelaw08.LevelsNear", spec := "levelsNear", inPlace := ["math.Float64bits", "math.Float64frombits", "math.archFloor", "math.archTrunc"], unfollowed := true, recurses := true, named := ["math/bits.divideError", "math/bits.overflowError"], apart := false }
def LevelsNearSaid : Prop := levelsNearRow.holds Try.pinned (OpenSpec.ofChange levelsNearSpec)

/-- ITS FALSE NEIGHBOUR: 'it returns false'. Refute it at one input. -/
def levelsNearWrong : ChangeSpec := { name := "levelsNear", fn := fun _ => fun
  | [d1, d2, d3, d4] => { results := [.lit (.bool false)], args := [d1, d2, d3, d4] }
  | _ => none }
def LevelsNearWrongFalsely : Prop := levelsNearRow.holds Try.pinned (OpenSpec.ofChange levelsNearWrong)

/-- 'inclinelaw08.LevelsBound': WHATEVER THE INPUT: true; the input reads as it did. -/
def levelsBoundSpec : ChangeSpec := { name := "levelsBound", fn := fun _ => fun
  | [d1, d2, d3] => { results := [.lit (.bool true)], args := [d1, d2, d3] }
  | _ => none }
def levelsBoundRow : OpenClaim := { program := "ytnccgpdniigekaa", sum := "58a7067db9c79d5a490ed95bfcadabe3ac343fd797c43d6c5db8ba136c3b6736", func := "incline/inclinelaw08.LevelsBound", spec := "levelsBound", inPlace := ["math.Float64bits", "math.Float64frombits", "math.archFloor", "math.archTrunc"], unfollowed := true, recurses := true, named := ["math/bits.divideError", "math/bits.overflowError"], apart := false }
def LevelsBoundSaid : Prop := levelsBoundRow.holds Try.pinned (OpenSpec.ofChange levelsBoundSpec)

/-- ITS FALSE NEIGHBOUR: 'it returns false'. Refute it at one input. -/
def levelsBoundWrong : ChangeSpec := { name := "levelsBound", fn := fun _ => fun
  | [d1, d2, d3] => { results := [.lit (.bool false)], args := [d1, d2, d3] }
  | _ => none }
def LevelsBoundWrongFalsely : Prop := levelsBoundRow.holds Try.pinned (OpenSpec.ofChange levelsBoundWrong)

/-- 'inclinelaw08.LevelsApart': WHATEVER THE INPUT: true; the input reads as it did. -/
def levelsApartSpec : ChangeSpec := { name := "levelsApart", fn := fun _ => fun
  | [d1, d2, d3] => { results := [.lit (.bool true)], args := [d1, d2, d3] }
  | _ => none }
def levelsApartRow : OpenClaim := { program := "ytnccgpdniigekaa", sum := "58a7067db9c79d5a490ed95bfcadabe3ac343fd797c43d6c5db8ba136c3b6736", func := "incline/inclinelaw08.LevelsApart", spec := "levelsApart", inPlace := ["math.Float64bits", "math.Float64frombits", "math.archFloor", "math.archTrunc"], unfollowed := true, recurses := true, named := ["math/bits.divideError", "math/bits.overflowError"], apart := false }
def LevelsApartSaid : Prop := levelsApartRow.holds Try.pinned (OpenSpec.ofChange levelsApartSpec)

/-- ITS FALSE NEIGHBOUR: 'it returns false'. Refute it at one input. -/
def levelsApartWrong : ChangeSpec := { name := "levelsApart", fn := fun _ => fun
  | [d1, d2, d3] => { results := [.lit (.bool false)], args := [d1, d2, d3] }
  | _ => none }
def LevelsApartWrongFalsely : Prop := levelsApartRow.holds Try.pinned (OpenSpec.ofChange levelsApartWrong)

/-- 'inclinelaw08.LevelsMoved': WHATEVER THE INPUT: true; the input reads as it did. -/
def levelsMovedSpec : ChangeSpec := { name := "levelsMoved", fn := fun _ => fun
  | [d1, d2, d3] => { results := [.lit (.bool true)], args := [d1, d2, d3] }
  | _ => none }
def levelsMovedRow : OpenClaim := { program := "ytnccgpdniigekaa", sum := "58a7067db9c79d5a490ed95bfcadabe3ac343fd797c43d6c5db8ba136c3b6736", func := "incline/inclinelaw08.LevelsMoved", spec := "levelsMoved", inPlace := ["math.Float64bits", "math.Float64frombits", "math.archFloor", "math.archTrunc"], unfollowed := true, recurses := true, named := ["math/bits.divideError", "math/bits.overflowError"], apart := false }
def LevelsMovedSaid : Prop := levelsMovedRow.holds Try.pinned (OpenSpec.ofChange levelsMovedSpec)

/-- ITS FALSE NEIGHBOUR: 'it returns false'. Refute it at one input. -/
def levelsMovedWrong : ChangeSpec := { name := "levelsMoved", fn := fun _ => fun
  | [d1, d2, d3] => { results := [.lit (.bool false)], args := [d1, d2, d3] }
  | _ => none }
def LevelsMovedWrongFalsely : Prop := levelsMovedRow.holds Try.pinned (OpenSpec.ofChange levelsMovedWrong)

/-- 'inclinelaw09.ProbePaths': WHATEVER THE INPUT: true; the input reads as it did. -/
def probePathsSpec : ChangeSpec := { name := "probePaths", fn := fun _ => fun
  | [d1, d2] => { results := [.lit (.bool true)], args := [d1, d2] }
  | _ => none }
def probePathsRow : OpenClaim := { program := "ytnccgpdniigekaa", sum := "58a7067db9c79d5a490ed95bfcadabe3ac343fd797c43d6c5db8ba136c3b6736", func := "incline/inclinelaw09.ProbePaths", spec := "probePaths", inPlace := ["math.Float64bits", "math.Float64frombits", "math.archFloor", "math.archTrunc"], unfollowed := true, recurses := true, apart := false }
def ProbePathsSaid : Prop := probePathsRow.holds Try.pinned (OpenSpec.ofChange probePathsSpec)

/-- ITS FALSE NEIGHBOUR: 'it returns false'. Refute it at one input. -/
def probePathsWrong : ChangeSpec := { name := "probePaths", fn := fun _ => fun
  | [d1, d2] => { results := [.lit (.bool false)], args := [d1, d2] }
  | _ => none }
def ProbePathsWrongFalsely : Prop := probePathsRow.holds Try.pinned (OpenSpec.ofChange probePathsWrong)

/-- 'inclinelaw09.ProbeReads': WHATEVER THE INPUT: true; the input reads as it did. -/
def probeReadsSpec : ChangeSpec := { name := "probeReads", fn := fun _ => fun
  | [d1, d2] => { results := [.lit (.bool true)], args := [d1, d2] }
  | _ => none }
def probeReadsRow : OpenClaim := { program := "ytnccgpdniigekaa", sum := "58a7067db9c79d5a490ed95bfcadabe3ac343fd797c43d6c5db8ba136c3b6736", func := "incline/inclinelaw09.ProbeReads", spec := "probeReads", inPlace := ["math.Float64bits", "math.Float64frombits", "math.archFloor", "math.archTrunc"], unfollowed := true, recurses := true, apart := false }
def ProbeReadsSaid : Prop := probeReadsRow.holds Try.pinned (OpenSpec.ofChange probeReadsSpec)

/-- ITS FALSE NEIGHBOUR: 'it returns false'. Refute it at one input. -/
def probeReadsWrong : ChangeSpec := { name := "probeReads", fn := fun _ => fun
  | [d1, d2] => { results := [.lit (.bool false)], args := [d1, d2] }
  | _ => none }
def ProbeReadsWrongFalsely : Prop := probeReadsRow.holds Try.pinned (OpenSpec.ofChange probeReadsWrong)

/-- 'inclinelaw09.ProbeFinds': WHATEVER THE INPUT: true; the input reads as it did. -/
def probeFindsSpec : ChangeSpec := { name := "probeFinds", fn := fun _ => fun
  | [d1, d2] => { results := [.lit (.bool true)], args := [d1, d2] }
  | _ => none }
def probeFindsRow : OpenClaim := { program := "ytnccgpdniigekaa", sum := "58a7067db9c79d5a490ed95bfcadabe3ac343fd797c43d6c5db8ba136c3b6736", func := "incline/inclinelaw09.ProbeFinds", spec := "probeFinds", inPlace := ["math.Float64bits", "math.Float64frombits", "math.archFloor", "math.archTrunc"], unfollowed := true, recurses := true, apart := false }
def ProbeFindsSaid : Prop := probeFindsRow.holds Try.pinned (OpenSpec.ofChange probeFindsSpec)

/-- ITS FALSE NEIGHBOUR: 'it returns false'. Refute it at one input. -/
def probeFindsWrong : ChangeSpec := { name := "probeFinds", fn := fun _ => fun
  | [d1, d2] => { results := [.lit (.bool false)], args := [d1, d2] }
  | _ => none }
def ProbeFindsWrongFalsely : Prop := probeFindsRow.holds Try.pinned (OpenSpec.ofChange probeFindsWrong)

/-- 'inclinelaw09.ProbeSteps': WHATEVER THE INPUT: true; the input reads as it did. -/
def probeStepsSpec : ChangeSpec := { name := "probeSteps", fn := fun _ => fun
  | [d1, d2] => { results := [.lit (.bool true)], args := [d1, d2] }
  | _ => none }
def probeStepsRow : OpenClaim := { program := "ytnccgpdniigekaa", sum := "58a7067db9c79d5a490ed95bfcadabe3ac343fd797c43d6c5db8ba136c3b6736", func := "incline/inclinelaw09.ProbeSteps", spec := "probeSteps", inPlace := ["math.Float64bits", "math.Float64frombits", "math.archFloor", "math.archTrunc"], unfollowed := true, recurses := true, apart := false }
def ProbeStepsSaid : Prop := probeStepsRow.holds Try.pinned (OpenSpec.ofChange probeStepsSpec)

/-- ITS FALSE NEIGHBOUR: 'it returns false'. Refute it at one input. -/
def probeStepsWrong : ChangeSpec := { name := "probeSteps", fn := fun _ => fun
  | [d1, d2] => { results := [.lit (.bool false)], args := [d1, d2] }
  | _ => none }
def ProbeStepsWrongFalsely : Prop := probeStepsRow.holds Try.pinned (OpenSpec.ofChange probeStepsWrong)

/- THE SECOND FORM. 'bulk': how many values and letters a reading holds, each counted each time it is reached (what is shared counts as often as it is met; a slice's spare places count too). A statement '..UptoSaid' is the law's where the arguments, and the package variables that the reading takes, are together of bulk at most 1048576: NARROWER than '..Said'. Prove '..Said' where nothing that the law and all that it calls make is longer than what came in: it says more and counts as full. Else prove '..UptoSaid'. A law counts once. -/
mutual
def uptoBulk {H : Type} : DataW H → Nat
  | .lit (.string bytes) => bytes.length + 1
  | .lit _ => 1
  | .nil => 1
  | .ptr d => uptoBulk d + 1
  | .slice elems spare => uptoBulkAll elems + uptoBulkAll spare + 1
  | .agg parts => uptoBulkAll parts + 1
  | .iface _ d => uptoBulk d + 1
  | .map entries => uptoBulkEntries entries + 1
  | .held _ => 1
def uptoBulkAll {H : Type} : List (DataW H) → Nat
  | [] => 0
  | d :: r => uptoBulk d + uptoBulkAll r
def uptoBulkEntries {H : Type} : List (Lit × DataW H) → Nat
  | [] => 0
  | x :: r => uptoBulkEntry x + uptoBulkEntries r
def uptoBulkEntry {H : Type} : Lit × DataW H → Nat
  | (.string bytes, d) => bytes.length + uptoBulk d + 1
  | (_, d) => uptoBulk d + 1
 end
def uptoSmall : (H : Type) → List (DataW H) → Bool := fun _ ds => decide (uptoBulkAll ds ≤ 1048576)
def OpenSpec.upto (s : _root_.Go.ChangeSpec) : _root_.Go.OpenSpec := { _root_.Go.OpenSpec.ofChange s with cond := some uptoSmall }

/-- 'inclinelaw08.LevelsBuild', WHERE WHAT IT READS IS OF BULK AT MOST 1048576: true; the input reads as it did. -/
def levelsBuildUptoRow : OpenClaim := { program := "ytnccgpdniigekaa", sum := "58a7067db9c79d5a490ed95bfcadabe3ac343fd797c43d6c5db8ba136c3b6736", func := "incline/inclinelaw08.LevelsBuild", spec := "levelsBuild", inPlace := ["math.Float64bits", "math.Float64frombits", "math.archFloor", "math.archTrunc"], unfollowed := true, recurses := true, named := ["math/bits.divideError", "math/bits.overflowError"], apart := false, narrowed := true }
def LevelsBuildUptoSaid : Prop := levelsBuildUptoRow.holds Try.pinned (OpenSpec.upto levelsBuildSpec)

/-- 'inclinelaw08.LevelsChecks', WHERE WHAT IT READS IS OF BULK AT MOST 1048576: true; the input reads as it did. -/
def levelsChecksUptoRow : OpenClaim := { program := "ytnccgpdniigekaa", sum := "58a7067db9c79d5a490ed95bfcadabe3ac343fd797c43d6c5db8ba136c3b6736", func := "incline/inclinelaw08.LevelsChecks", spec := "levelsChecks", inPlace := ["math.Float64bits", "math.Float64frombits", "math.archFloor", "math.archTrunc"], unfollowed := true, recurses := true, named := ["math/bits.divideError", "math/bits.overflowError"], apart := false, narrowed := true }
def LevelsChecksUptoSaid : Prop := levelsChecksUptoRow.holds Try.pinned (OpenSpec.upto levelsChecksSpec)

/-- 'inclinelaw08.LevelsHeights', WHERE WHAT IT READS IS OF BULK AT MOST 1048576: true; the input reads as it did. -/
def levelsHeightsUptoRow : OpenClaim := { program := "ytnccgpdniigekaa", sum := "58a7067db9c79d5a490ed95bfcadabe3ac343fd797c43d6c5db8ba136c3b6736", func := "incline/inclinelaw08.LevelsHeights", spec := "levelsHeights", inPlace := ["math.Float64bits", "math.Float64frombits", "math.archFloor", "math.archTrunc"], unfollowed := true, recurses := true, named := ["math/bits.divideError", "math/bits.overflowError"], apart := false, narrowed := true }
def LevelsHeightsUptoSaid : Prop := levelsHeightsUptoRow.holds Try.pinned (OpenSpec.upto levelsHeightsSpec)

/-- 'inclinelaw08.LevelsRight', WHERE WHAT IT READS IS OF BULK AT MOST 1048576: true; the input reads as it did. -/
def levelsRightUptoRow : OpenClaim := { program := "ytnccgpdniigekaa", sum := "58a7067db9c79d5a490ed95bfcadabe3ac343fd797c43d6c5db8ba136c3b6736", func := "incline/inclinelaw08.LevelsRight", spec := "levelsRight", inPlace := ["math.Float64bits", "math.Float64frombits", "math.archFloor", "math.archTrunc"], unfollowed := true, recurses := true, named := ["math/bits.divideError", "math/bits.overflowError"], apart := false, narrowed := true }
def LevelsRightUptoSaid : Prop := levelsRightUptoRow.holds Try.pinned (OpenSpec.upto levelsRightSpec)

/-- 'inclinelaw08.LevelsFew', WHERE WHAT IT READS IS OF BULK AT MOST 1048576: true; the input reads as it did. -/
def levelsFewUptoRow : OpenClaim := { program := "ytnccgpdniigekaa", sum := "58a7067db9c79d5a490ed95bfcadabe3ac343fd797c43d6c5db8ba136c3b6736", func := "incline/inclinelaw08.LevelsFew", spec := "levelsFew", inPlace := ["math.Float64bits", "math.Float64frombits", "math.archFloor", "math.archTrunc"], unfollowed := true, recurses := true, named := ["math/bits.divideError", "math/bits.overflowError"], apart := false, narrowed := true }
def LevelsFewUptoSaid : Prop := levelsFewUptoRow.holds Try.pinned (OpenSpec.upto levelsFewSpec)

/-- 'inclinelaw08.LevelsNear', WHERE WHAT IT READS IS OF BULK AT MOST 1048576: true; the input reads as it did. -/
def levelsNearUptoRow : OpenClaim := { program := "ytnccgpdniigekaa", sum := "58a7067db9c79d5a490ed95bfcadabe3ac343fd797c43d6c5db8ba136c3b6736", func := "incline/inclinelaw08.LevelsNear", spec := "levelsNear", inPlace := ["math.Float64bits", "math.Float64frombits", "math.archFloor", "math.archTrunc"], unfollowed := true, recurses := true, named := ["math/bits.divideError", "math/bits.overflowError"], apart := false, narrowed := true }
def LevelsNearUptoSaid : Prop := levelsNearUptoRow.holds Try.pinned (OpenSpec.upto levelsNearSpec)

/-- 'inclinelaw08.LevelsBound', WHERE WHAT IT READS IS OF BULK AT MOST 1048576: true; the input reads as it did. -/
def levelsBoundUptoRow : OpenClaim := { program := "ytnccgpdniigekaa", sum := "58a7067db9c79d5a490ed95bfcadabe3ac343fd797c43d6c5db8ba136c3b6736", func := "incline/inclinelaw08.LevelsBound", spec := "levelsBound", inPlace := ["math.Float64bits", "math.Float64frombits", "math.archFloor", "math.archTrunc"], unfollowed := true, recurses := true, named := ["math/bits.divideError", "math/bits.overflowError"], apart := false, narrowed := true }
def LevelsBoundUptoSaid : Prop := levelsBoundUptoRow.holds Try.pinned (OpenSpec.upto levelsBoundSpec)

/-- 'inclinelaw08.LevelsApart', WHERE WHAT IT READS IS OF BULK AT MOST 1048576: true; the input reads as it did. -/
def levelsApartUptoRow : OpenClaim := { program := "ytnccgpdniigekaa", sum := "58a7067db9c79d5a490ed95bfcadabe3ac343fd797c43d6c5db8ba136c3b6736", func := "incline/inclinelaw08.LevelsApart", spec := "levelsApart", inPlace := ["math.Float64bits", "math.Float64frombits", "math.archFloor", "math.archTrunc"], unfollowed := true, recurses := true, named := ["math/bits.divideError", "math/bits.overflowError"], apart := false, narrowed := true }
def LevelsApartUptoSaid : Prop := levelsApartUptoRow.holds Try.pinned (OpenSpec.upto levelsApartSpec)

/-- 'inclinelaw08.LevelsMoved', WHERE WHAT IT READS IS OF BULK AT MOST 1048576: true; the input reads as it did. -/
def levelsMovedUptoRow : OpenClaim := { program := "ytnccgpdniigekaa", sum := "58a7067db9c79d5a490ed95bfcadabe3ac343fd797c43d6c5db8ba136c3b6736", func := "incline/inclinelaw08.LevelsMoved", spec := "levelsMoved", inPlace := ["math.Float64bits", "math.Float64frombits", "math.archFloor", "math.archTrunc"], unfollowed := true, recurses := true, named := ["math/bits.divideError", "math/bits.overflowError"], apart := false, narrowed := true }
def LevelsMovedUptoSaid : Prop := levelsMovedUptoRow.holds Try.pinned (OpenSpec.upto levelsMovedSpec)

/-- 'inclinelaw09.ProbePaths', WHERE WHAT IT READS IS OF BULK AT MOST 1048576: true; the input reads as it did. -/
def probePathsUptoRow : OpenClaim := { program := "ytnccgpdniigekaa", sum := "58a7067db9c79d5a490ed95bfcadabe3ac343fd797c43d6c5db8ba136c3b6736", func := "incline/inclinelaw09.ProbePaths", spec := "probePaths", inPlace := ["math.Float64bits", "math.Float64frombits", "math.archFloor", "math.archTrunc"], unfollowed := true, recurses := true, apart := false, narrowed := true }
def ProbePathsUptoSaid : Prop := probePathsUptoRow.holds Try.pinned (OpenSpec.upto probePathsSpec)

/-- 'inclinelaw09.ProbeReads', WHERE WHAT IT READS IS OF BULK AT MOST 1048576: true; the input reads as it did. -/
def probeReadsUptoRow : OpenClaim := { program := "ytnccgpdniigekaa", sum := "58a7067db9c79d5a490ed95bfcadabe3ac343fd797c43d6c5db8ba136c3b6736", func := "incline/inclinelaw09.ProbeReads", spec := "probeReads", inPlace := ["math.Float64bits", "math.Float64frombits", "math.archFloor", "math.archTrunc"], unfollowed := true, recurses := true, apart := false, narrowed := true }
def ProbeReadsUptoSaid : Prop := probeReadsUptoRow.holds Try.pinned (OpenSpec.upto probeReadsSpec)

/-- 'inclinelaw09.ProbeFinds', WHERE WHAT IT READS IS OF BULK AT MOST 1048576: true; the input reads as it did. -/
def probeFindsUptoRow : OpenClaim := { program := "ytnccgpdniigekaa", sum := "58a7067db9c79d5a490ed95bfcadabe3ac343fd797c43d6c5db8ba136c3b6736", func := "incline/inclinelaw09.ProbeFinds", spec := "probeFinds", inPlace := ["math.Float64bits", "math.Float64frombits", "math.archFloor", "math.archTrunc"], unfollowed := true, recurses := true, apart := false, narrowed := true }
def ProbeFindsUptoSaid : Prop := probeFindsUptoRow.holds Try.pinned (OpenSpec.upto probeFindsSpec)

/-- 'inclinelaw09.ProbeSteps', WHERE WHAT IT READS IS OF BULK AT MOST 1048576: true; the input reads as it did. -/
def probeStepsUptoRow : OpenClaim := { program := "ytnccgpdniigekaa", sum := "58a7067db9c79d5a490ed95bfcadabe3ac343fd797c43d6c5db8ba136c3b6736", func := "incline/inclinelaw09.ProbeSteps", spec := "probeSteps", inPlace := ["math.Float64bits", "math.Float64frombits", "math.archFloor", "math.archTrunc"], unfollowed := true, recurses := true, apart := false, narrowed := true }
def ProbeStepsUptoSaid : Prop := probeStepsUptoRow.holds Try.pinned (OpenSpec.upto probeStepsSpec)

end Rows
end Go.Proofs.Ytnccgpdniigekaa
