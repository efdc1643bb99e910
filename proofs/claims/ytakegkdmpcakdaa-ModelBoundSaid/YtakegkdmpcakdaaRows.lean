/-
  No cell of these rows narrows 'for every input' (looked for: loops, veiled, ifaces, maps, wideKeys, modest, calm, conditions, laid).
  DERIVED. THE GIVEN ROWS OF THIS SEAT. 7 by the template 'for every input the law returns true; each argument reads behind the call as it read before'; 0 by the template 'total and deterministic' (their statements: YtakegkdmpcakdaaTotals.lean).
  GIVEN WITH THE SEED: the statements are not yours to turn. If you find one false, say at which input.
  Laid BY PROGRAM, IN A SANDBOX (cutbox-rows.mjs): the forced cells as the released guide's own fill.sh prints them over the translation 6b45f68deba03237… (all of the seat's roots in one cut). By AI agents, Wed Nov 11 2026. No macro, syntax, notation, axiom, sorry.
-/
import Derived.Test.YtakegkdmpcakdaaChecked
import GoSem.Claim
import GoSem.ClaimJoined
import GoSem.ClaimMapViews
import Derived.JoinedTies
import Derived.KernelRfl
namespace Go.Proofs.Ytakegkdmpcakdaa
/- THE CELL 'sum', in the pinned program and in every row, IS THE sha256 OF THE DUMP (.gsa) THAT YtakegkdmpcakdaaProg.lean LOADS. Nothing in Lean hashes anything: it is a label: what it is worth is what the hold of that sum in a sandbox is worth. -/
noncomputable def Try.pinned : Pinned := { name := "ytakegkdmpcakdaa", sum := "6b45f68deba0323764b499fe4f335a115b1cd47be244212208a170d55862235c", checked := Try.checked }
namespace Rows
def none {H : Type} : Left H := { results := [], args := [] }

/-- 'inclinelaw07.ModelChecks': WHATEVER THE INPUT: true; the input reads as it did. -/
def modelChecksSpec : ChangeSpec := { name := "modelChecks", fn := fun _ => fun
  | [d] => { results := [.lit (.bool true)], args := [d] }
  | _ => none }
def modelChecksRow : OpenClaim := { program := "ytakegkdmpcakdaa", sum := "6b45f68deba0323764b499fe4f335a115b1cd47be244212208a170d55862235c", func := "incline/inclinelaw07.ModelChecks", spec := "modelChecks", inPlace := ["math.Float64bits", "math.Float64frombits", "math.archFloor", "math.archTrunc"], unfollowed := true, recurses := true, named := ["math/bits.divideError", "math/bits.overflowError"], apart := false }
def ModelChecksSaid : Prop := modelChecksRow.holds Try.pinned (OpenSpec.ofChange modelChecksSpec)

/-- ITS FALSE NEIGHBOUR: 'it returns false'. Refute it at one input. -/
def modelChecksWrong : ChangeSpec := { name := "modelChecks", fn := fun _ => fun
  | [d] => { results := [.lit (.bool false)], args := [d] }
  | _ => none }
def ModelChecksWrongFalsely : Prop := modelChecksRow.holds Try.pinned (OpenSpec.ofChange modelChecksWrong)

/-- 'inclinelaw07.ModelOf': WHATEVER THE INPUT: true; the input reads as it did. -/
def modelOfSpec : ChangeSpec := { name := "modelOf", fn := fun _ => fun
  | [d1, d2, d3] => { results := [.lit (.bool true)], args := [d1, d2, d3] }
  | _ => none }
def modelOfRow : OpenClaim := { program := "ytakegkdmpcakdaa", sum := "6b45f68deba0323764b499fe4f335a115b1cd47be244212208a170d55862235c", func := "incline/inclinelaw07.ModelOf", spec := "modelOf", inPlace := ["math.Float64bits", "math.Float64frombits", "math.archFloor", "math.archTrunc"], unfollowed := true, recurses := true, named := ["math/bits.divideError", "math/bits.overflowError"], apart := false }
def ModelOfSaid : Prop := modelOfRow.holds Try.pinned (OpenSpec.ofChange modelOfSpec)

/-- ITS FALSE NEIGHBOUR: 'it returns false'. Refute it at one input. -/
def modelOfWrong : ChangeSpec := { name := "modelOf", fn := fun _ => fun
  | [d1, d2, d3] => { results := [.lit (.bool false)], args := [d1, d2, d3] }
  | _ => none }
def ModelOfWrongFalsely : Prop := modelOfRow.holds Try.pinned (OpenSpec.ofChange modelOfWrong)

/-- 'inclinelaw07.ModelGuesses': WHATEVER THE INPUT: true; the input reads as it did. -/
def modelGuessesSpec : ChangeSpec := { name := "modelGuesses", fn := fun _ => fun
  | [d1, d2] => { results := [.lit (.bool true)], args := [d1, d2] }
  | _ => none }
def modelGuessesRow : OpenClaim := { program := "ytakegkdmpcakdaa", sum := "6b45f68deba0323764b499fe4f335a115b1cd47be244212208a170d55862235c", func := "incline/inclinelaw07.ModelGuesses", spec := "modelGuesses", inPlace := ["math.Float64bits", "math.Float64frombits", "math.archFloor", "math.archTrunc"], unfollowed := true, recurses := true, named := ["math/bits.divideError", "math/bits.overflowError"], apart := false }
def ModelGuessesSaid : Prop := modelGuessesRow.holds Try.pinned (OpenSpec.ofChange modelGuessesSpec)

/-- ITS FALSE NEIGHBOUR: 'it returns false'. Refute it at one input. -/
def modelGuessesWrong : ChangeSpec := { name := "modelGuesses", fn := fun _ => fun
  | [d1, d2] => { results := [.lit (.bool false)], args := [d1, d2] }
  | _ => none }
def ModelGuessesWrongFalsely : Prop := modelGuessesRow.holds Try.pinned (OpenSpec.ofChange modelGuessesWrong)

/-- 'inclinelaw07.ModelOff': WHATEVER THE INPUT: true; the input reads as it did. -/
def modelOffSpec : ChangeSpec := { name := "modelOff", fn := fun _ => fun
  | [d1, d2] => { results := [.lit (.bool true)], args := [d1, d2] }
  | _ => none }
def modelOffRow : OpenClaim := { program := "ytakegkdmpcakdaa", sum := "6b45f68deba0323764b499fe4f335a115b1cd47be244212208a170d55862235c", func := "incline/inclinelaw07.ModelOff", spec := "modelOff", inPlace := ["math.Float64bits", "math.Float64frombits", "math.archFloor", "math.archTrunc"], unfollowed := true, recurses := true, named := ["math/bits.divideError", "math/bits.overflowError"], apart := false }
def ModelOffSaid : Prop := modelOffRow.holds Try.pinned (OpenSpec.ofChange modelOffSpec)

/-- ITS FALSE NEIGHBOUR: 'it returns false'. Refute it at one input. -/
def modelOffWrong : ChangeSpec := { name := "modelOff", fn := fun _ => fun
  | [d1, d2] => { results := [.lit (.bool false)], args := [d1, d2] }
  | _ => none }
def ModelOffWrongFalsely : Prop := modelOffRow.holds Try.pinned (OpenSpec.ofChange modelOffWrong)

/-- 'inclinelaw07.ModelBound': WHATEVER THE INPUT: true; the input reads as it did. -/
def modelBoundSpec : ChangeSpec := { name := "modelBound", fn := fun _ => fun
  | [d1, d2, d3] => { results := [.lit (.bool true)], args := [d1, d2, d3] }
  | _ => none }
def modelBoundRow : OpenClaim := { program := "ytakegkdmpcakdaa", sum := "6b45f68deba0323764b499fe4f335a115b1cd47be244212208a170d55862235c", func := "incline/inclinelaw07.ModelBound", spec := "modelBound", inPlace := ["math.Float64bits", "math.Float64frombits", "math.archFloor", "math.archTrunc"], unfollowed := true, recurses := true, named := ["math/bits.divideError", "math/bits.overflowError"], apart := false }
def ModelBoundSaid : Prop := modelBoundRow.holds Try.pinned (OpenSpec.ofChange modelBoundSpec)

/-- ITS FALSE NEIGHBOUR: 'it returns false'. Refute it at one input. -/
def modelBoundWrong : ChangeSpec := { name := "modelBound", fn := fun _ => fun
  | [d1, d2, d3] => { results := [.lit (.bool false)], args := [d1, d2, d3] }
  | _ => none }
def ModelBoundWrongFalsely : Prop := modelBoundRow.holds Try.pinned (OpenSpec.ofChange modelBoundWrong)

/-- 'inclinelaw07.ModelRises': WHATEVER THE INPUT: true; the input reads as it did. -/
def modelRisesSpec : ChangeSpec := { name := "modelRises", fn := fun _ => fun
  | [d1, d2, d3] => { results := [.lit (.bool true)], args := [d1, d2, d3] }
  | _ => none }
def modelRisesRow : OpenClaim := { program := "ytakegkdmpcakdaa", sum := "6b45f68deba0323764b499fe4f335a115b1cd47be244212208a170d55862235c", func := "incline/inclinelaw07.ModelRises", spec := "modelRises", inPlace := ["math.Float64bits", "math.Float64frombits", "math.archFloor", "math.archTrunc"], unfollowed := true, recurses := true, named := ["math/bits.divideError", "math/bits.overflowError"], apart := false }
def ModelRisesSaid : Prop := modelRisesRow.holds Try.pinned (OpenSpec.ofChange modelRisesSpec)

/-- ITS FALSE NEIGHBOUR: 'it returns false'. Refute it at one input. -/
def modelRisesWrong : ChangeSpec := { name := "modelRises", fn := fun _ => fun
  | [d1, d2, d3] => { results := [.lit (.bool false)], args := [d1, d2, d3] }
  | _ => none }
def ModelRisesWrongFalsely : Prop := modelRisesRow.holds Try.pinned (OpenSpec.ofChange modelRisesWrong)

/-- 'inclinelaw07.ModelMoved': WHATEVER THE INPUT: true; the input reads as it did. -/
def modelMovedSpec : ChangeSpec := { name := "modelMoved", fn := fun _ => fun
  | [d1, d2, d3] => { results := [.lit (.bool true)], args := [d1, d2, d3] }
  | _ => none }
def modelMovedRow : OpenClaim := { program := "ytakegkdmpcakdaa", sum := "6b45f68deba0323764b499fe4f335a115b1cd47be244212208a170d55862235c", func := "incline/inclinelaw07.ModelMoved", spec := "modelMoved", inPlace := ["math.Float64bits", "math.Float64frombits", "math.archFloor", "math.archTrunc"], unfollowed := true, recurses := true, named := ["math/bits.divideError", "math/bits.overflowError"], apart := false }
def ModelMovedSaid : Prop := modelMovedRow.holds Try.pinned (OpenSpec.ofChange modelMovedSpec)

/-- ITS FALSE NEIGHBOUR: 'it returns false'. Refute it at one input. -/
def modelMovedWrong : ChangeSpec := { name := "modelMoved", fn := fun _ => fun
  | [d1, d2, d3] => { results := [.lit (.bool false)], args := [d1, d2, d3] }
  | _ => none }
def ModelMovedWrongFalsely : Prop := modelMovedRow.holds Try.pinned (OpenSpec.ofChange modelMovedWrong)

/- THE SECOND FORM. 'bulk': how many values and letters a reading holds, each counted each time it is reached (what is shared counts as often as it is met; a slice's spare places count too). A statement '..UptoSaid' is the law's where the arguments, and the package variables that the reading takes, are together of bulk at most 1048576: NARROWER than '..Said'. Prove '..Said' where nothing that the law and all that it calls make is longer than what came in: it says more and counts as full. Else prove '..UptoSaid'. A law counts once. -/
mutual
def uptoBulk {H : Type} : DataW H → Nat
  | .lit (.string bytes) => bytes.length + 1
  | .lit _ => 1
  | .nil => 1
  | .ptr d => uptoBulk d + 1
  | .slice elems spare => uptoBulkAll elems + uptoBulkAll spare + 1
  | .agg parts => uptoBulkAll parts + 1
  | .iface _ d => uptoBulk d + 1
  | .map entries => uptoBulkEntries entries + 1
  | .held _ => 1
def uptoBulkAll {H : Type} : List (DataW H) → Nat
  | [] => 0
  | d :: r => uptoBulk d + uptoBulkAll r
def uptoBulkEntries {H : Type} : List (Lit × DataW H) → Nat
  | [] => 0
  | x :: r => uptoBulkEntry x + uptoBulkEntries r
def uptoBulkEntry {H : Type} : Lit × DataW H → Nat
  | (.string bytes, d) => bytes.length + uptoBulk d + 1
  | (_, d) => uptoBulk d + 1
 end
def uptoSmall : (H : Type) → List (DataW H) → Bool := fun _ ds => decide (uptoBulkAll ds ≤ 1048576)
def OpenSpec.upto (s : _root_.Go.ChangeSpec) : _root_.Go.OpenSpec := { _root_.Go.OpenSpec.ofChange s with cond := some uptoSmall }

/-- 'inclinelaw07.ModelChecks', WHERE WHAT IT READS IS OF BULK AT MOST 1048576: true; the input reads as it did. -/
def modelChecksUptoRow : OpenClaim := { program := "ytakegkdmpcakdaa", sum := "6b45f68deba0323764b499fe4f335a115b1cd47be244212208a170d55862235c", func := "incline/inclinelaw07.ModelChecks", spec := "modelChecks", inPlace := ["math.Float64bits", "math.Float64frombits", "math.archFloor", "math.archTrunc"], unfollowed := true, recurses := true, named := ["math/bits.divideError", "math/bits.overflowError"], apart := false, narrowed := true }
def ModelChecksUptoSaid : Prop := modelChecksUptoRow.holds Try.pinned (OpenSpec.upto modelChecksSpec)

/-- 'inclinelaw07.ModelOf', WHERE WHAT IT READS IS OF BULK AT MOST 1048576: true; the input reads as it did. -/
def modelOfUptoRow : OpenClaim := { program := "ytakegkdmpcakdaa", sum := "6b45f68deba0323764b499fe4f335a115b1cd47be244212208a170d55862235c", func := "incline/inclinelaw07.ModelOf", spec := "modelOf", inPlace := ["math.Float64bits", "math.Float64frombits", "math.archFloor", "math.archTrunc"], unfollowed := true, recurses := true, named := ["math/bits.divideError", "math/bits.overflowError"], apart := false, narrowed := true }
def ModelOfUptoSaid : Prop := modelOfUptoRow.holds Try.pinned (OpenSpec.upto modelOfSpec)

/-- 'inclinelaw07.ModelGuesses', WHERE WHAT IT READS IS OF BULK AT MOST 1048576: true; the input reads as it did. -/
def modelGuessesUptoRow : OpenClaim := { program := "ytakegkdmpcakdaa", sum := "6b45f68deba0323764b499fe4f335a115b1cd47be244212208a170d55862235c", func := "incline/inclinelaw07.ModelGuesses", spec := "modelGuesses", inPlace := ["math.Float64bits", "math.Float64frombits", "math.archFloor", "math.archTrunc"], unfollowed := true, recurses := true, named := ["math/bits.divideError", "math/bits.overflowError"], apart := false, narrowed := true }
def ModelGuessesUptoSaid : Prop := modelGuessesUptoRow.holds Try.pinned (OpenSpec.upto modelGuessesSpec)

/-- 'inclinelaw07.ModelOff', WHERE WHAT IT READS IS OF BULK AT MOST 1048576: true; the input reads as it did. -/
def modelOffUptoRow : OpenClaim := { program := "ytakegkdmpcakdaa", sum := "6b45f68deba0323764b499fe4f335a115b1cd47be244212208a170d55862235c", func := "incline/inclinelaw07.ModelOff", spec := "modelOff", inPlace := ["math.Float64bits", "math.Float64frombits", "math.archFloor", "math.archTrunc"], unfollowed := true, recurses := true, named := ["math/bits.divideError", "math/bits.overflowError"], apart := false, narrowed := true }
def ModelOffUptoSaid : Prop := modelOffUptoRow.holds Try.pinned (OpenSpec.upto modelOffSpec)

/-- 'inclinelaw07.ModelBound', WHERE WHAT IT READS IS OF BULK AT MOST 1048576: true; the input reads as it did. -/
def modelBoundUptoRow : OpenClaim := { program := "ytakegkdmpcakdaa", sum := "6b45f68deba0323764b499fe4f335a115b1cd47be244212208a170d55862235c", func := "incline/inclinelaw07.ModelBound", spec := "modelBound", inPlace := ["math.Float64bits", "math.Float64frombits", "math.archFloor", "math.archTrunc"], unfollowed := true, recurses := true, named := ["math/bits.divideError", "math/bits.overflowError"], apart := false, narrowed := true }
def ModelBoundUptoSaid : Prop := modelBoundUptoRow.holds Try.pinned (OpenSpec.upto modelBoundSpec)

/-- 'inclinelaw07.ModelRises', WHERE WHAT IT READS IS OF BULK AT MOST 1048576: true; the input reads as it did. -/
def modelRisesUptoRow : OpenClaim := { program := "ytakegkdmpcakdaa", sum := "6b45f68deba0323764b499fe4f335a115b1cd47be244212208a170d55862235c", func := "incline/inclinelaw07.ModelRises", spec := "modelRises", inPlace := ["math.Float64bits", "math.Float64frombits", "math.archFloor", "math.archTrunc"], unfollowed := true, recurses := true, named := ["math/bits.divideError", "math/bits.overflowError"], apart := false, narrowed := true }
def ModelRisesUptoSaid : Prop := modelRisesUptoRow.holds Try.pinned (OpenSpec.upto modelRisesSpec)

/-- 'inclinelaw07.ModelMoved', WHERE WHAT IT READS IS OF BULK AT MOST 1048576: true; the input reads as it did. -/
def modelMovedUptoRow : OpenClaim := { program := "ytakegkdmpcakdaa", sum := "6b45f68deba0323764b499fe4f335a115b1cd47be244212208a170d55862235c", func := "incline/inclinelaw07.ModelMoved", spec := "modelMoved", inPlace := ["math.Float64bits", "math.Float64frombits", "math.archFloor", "math.archTrunc"], unfollowed := true, recurses := true, named := ["math/bits.divideError", "math/bits.overflowError"], apart := false, narrowed := true }
def ModelMovedUptoSaid : Prop := modelMovedUptoRow.holds Try.pinned (OpenSpec.upto modelMovedSpec)

end Rows
end Go.Proofs.Ytakegkdmpcakdaa
