/-
  No cell of these rows narrows 'for every input' (looked for: loops, veiled, ifaces, maps, wideKeys, modest, calm, conditions, laid).
  DERIVED. THE GIVEN ROWS OF THIS SEAT. 11 by the template 'for every input the law returns true; each argument reads behind the call as it read before'; 0 by the template 'total and deterministic' (their statements: YtanhhgifcolfaaaTotals.lean).
  GIVEN WITH THE SEED: the statements are not yours to turn. If you find one false, say at which input.
  Laid BY PROGRAM, IN A SANDBOX (cutbox-rows.mjs): the forced cells as the released guide's own fill.sh prints them over the translation 138809c4305379a5… (all of the seat's roots in one cut). By AI agents, Wed Nov 11 2026. No macro, syntax, notation, axiom, sorry.
-/
import Derived.Test.YtanhhgifcolfaaaChecked
import GoSem.Claim
import GoSem.ClaimJoined
import GoSem.ClaimMapViews
import Derived.JoinedTies
import Derived.KernelRfl
namespace Go.Proofs.Ytanhhgifcolfaaa
/- THE CELL 'sum', in the pinned program and in every row, IS THE sha256 OF THE DUMP (.gsa) THAT YtanhhgifcolfaaaProg.lean LOADS. Nothing in Lean hashes anything: it is a label: what it is worth is what the hold of that sum in a sandbox is worth. -/
noncomputable def Try.pinned : Pinned := { name := "ytanhhgifcolfaaa", sum := "138809c4305379a56c13e850bed687f26b2df94d32cc722131c9e7eb41b68f2e", checked := Try.checked }
namespace Rows
def none {H : Type} : Left H := { results := [], args := [] }

/-- 'inclinelaw04.HullRuns': WHATEVER THE INPUT: true; the input reads as it did. -/
def hullRunsSpec : ChangeSpec := { name := "hullRuns", fn := fun _ => fun
  | [d1, d2] => { results := [.lit (.bool true)], args := [d1, d2] }
  | _ => none }
def hullRunsRow : OpenClaim := { program := "ytanhhgifcolfaaa", sum := "138809c4305379a56c13e850bed687f26b2df94d32cc722131c9e7eb41b68f2e", func := "incline/inclinelaw04.HullRuns", spec := "hullRuns", unfollowed := true, recurses := true, apart := false }
def HullRunsSaid : Prop := hullRunsRow.holds Try.pinned (OpenSpec.ofChange hullRunsSpec)

/-- ITS FALSE NEIGHBOUR: 'it returns false'. Refute it at one input. -/
def hullRunsWrong : ChangeSpec := { name := "hullRuns", fn := fun _ => fun
  | [d1, d2] => { results := [.lit (.bool false)], args := [d1, d2] }
  | _ => none }
def HullRunsWrongFalsely : Prop := hullRunsRow.holds Try.pinned (OpenSpec.ofChange hullRunsWrong)

/-- 'inclinelaw04.HullFirst': WHATEVER THE INPUT: true; the input reads as it did. -/
def hullFirstSpec : ChangeSpec := { name := "hullFirst", fn := fun _ => fun
  | [d1, d2] => { results := [.lit (.bool true)], args := [d1, d2] }
  | _ => none }
def hullFirstRow : OpenClaim := { program := "ytanhhgifcolfaaa", sum := "138809c4305379a56c13e850bed687f26b2df94d32cc722131c9e7eb41b68f2e", func := "incline/inclinelaw04.HullFirst", spec := "hullFirst", unfollowed := true, recurses := true, apart := false }
def HullFirstSaid : Prop := hullFirstRow.holds Try.pinned (OpenSpec.ofChange hullFirstSpec)

/-- ITS FALSE NEIGHBOUR: 'it returns false'. Refute it at one input. -/
def hullFirstWrong : ChangeSpec := { name := "hullFirst", fn := fun _ => fun
  | [d1, d2] => { results := [.lit (.bool false)], args := [d1, d2] }
  | _ => none }
def HullFirstWrongFalsely : Prop := hullFirstRow.holds Try.pinned (OpenSpec.ofChange hullFirstWrong)

/-- 'inclinelaw04.HullNarrows': WHATEVER THE INPUT: true; the input reads as it did. -/
def hullNarrowsSpec : ChangeSpec := { name := "hullNarrows", fn := fun _ => fun
  | [d1, d2] => { results := [.lit (.bool true)], args := [d1, d2] }
  | _ => none }
def hullNarrowsRow : OpenClaim := { program := "ytanhhgifcolfaaa", sum := "138809c4305379a56c13e850bed687f26b2df94d32cc722131c9e7eb41b68f2e", func := "incline/inclinelaw04.HullNarrows", spec := "hullNarrows", unfollowed := true, recurses := true, apart := false }
def HullNarrowsSaid : Prop := hullNarrowsRow.holds Try.pinned (OpenSpec.ofChange hullNarrowsSpec)

/-- ITS FALSE NEIGHBOUR: 'it returns false'. Refute it at one input. -/
def hullNarrowsWrong : ChangeSpec := { name := "hullNarrows", fn := fun _ => fun
  | [d1, d2] => { results := [.lit (.bool false)], args := [d1, d2] }
  | _ => none }
def HullNarrowsWrongFalsely : Prop := hullNarrowsRow.holds Try.pinned (OpenSpec.ofChange hullNarrowsWrong)

/-- 'inclinelaw04.HullFits': WHATEVER THE INPUT: true; the input reads as it did. -/
def hullFitsSpec : ChangeSpec := { name := "hullFits", fn := fun _ => fun
  | [d1, d2] => { results := [.lit (.bool true)], args := [d1, d2] }
  | _ => none }
def hullFitsRow : OpenClaim := { program := "ytanhhgifcolfaaa", sum := "138809c4305379a56c13e850bed687f26b2df94d32cc722131c9e7eb41b68f2e", func := "incline/inclinelaw04.HullFits", spec := "hullFits", unfollowed := true, recurses := true, apart := false }
def HullFitsSaid : Prop := hullFitsRow.holds Try.pinned (OpenSpec.ofChange hullFitsSpec)

/-- ITS FALSE NEIGHBOUR: 'it returns false'. Refute it at one input. -/
def hullFitsWrong : ChangeSpec := { name := "hullFits", fn := fun _ => fun
  | [d1, d2] => { results := [.lit (.bool false)], args := [d1, d2] }
  | _ => none }
def HullFitsWrongFalsely : Prop := hullFitsRow.holds Try.pinned (OpenSpec.ofChange hullFitsWrong)

/-- 'inclinelaw04.HullMoved': WHATEVER THE INPUT: true; the input reads as it did. -/
def hullMovedSpec : ChangeSpec := { name := "hullMoved", fn := fun _ => fun
  | [d1, d2, d3] => { results := [.lit (.bool true)], args := [d1, d2, d3] }
  | _ => none }
def hullMovedRow : OpenClaim := { program := "ytanhhgifcolfaaa", sum := "138809c4305379a56c13e850bed687f26b2df94d32cc722131c9e7eb41b68f2e", func := "incline/inclinelaw04.HullMoved", spec := "hullMoved", unfollowed := true, recurses := true, apart := false }
def HullMovedSaid : Prop := hullMovedRow.holds Try.pinned (OpenSpec.ofChange hullMovedSpec)

/-- ITS FALSE NEIGHBOUR: 'it returns false'. Refute it at one input. -/
def hullMovedWrong : ChangeSpec := { name := "hullMoved", fn := fun _ => fun
  | [d1, d2, d3] => { results := [.lit (.bool false)], args := [d1, d2, d3] }
  | _ => none }
def HullMovedWrongFalsely : Prop := hullMovedRow.holds Try.pinned (OpenSpec.ofChange hullMovedWrong)

/-- 'inclinelaw04.HullPlays': WHATEVER THE INPUT: true; the input reads as it did. -/
def hullPlaysSpec : ChangeSpec := { name := "hullPlays", fn := fun _ => fun
  | [d1, d2] => { results := [.lit (.bool true)], args := [d1, d2] }
  | _ => none }
def hullPlaysRow : OpenClaim := { program := "ytanhhgifcolfaaa", sum := "138809c4305379a56c13e850bed687f26b2df94d32cc722131c9e7eb41b68f2e", func := "incline/inclinelaw04.HullPlays", spec := "hullPlays", unfollowed := true, recurses := true, apart := false }
def HullPlaysSaid : Prop := hullPlaysRow.holds Try.pinned (OpenSpec.ofChange hullPlaysSpec)

/-- ITS FALSE NEIGHBOUR: 'it returns false'. Refute it at one input. -/
def hullPlaysWrong : ChangeSpec := { name := "hullPlays", fn := fun _ => fun
  | [d1, d2] => { results := [.lit (.bool false)], args := [d1, d2] }
  | _ => none }
def HullPlaysWrongFalsely : Prop := hullPlaysRow.holds Try.pinned (OpenSpec.ofChange hullPlaysWrong)

/-- 'inclinelaw06.CutEnds': WHATEVER THE INPUT: true; the input reads as it did. -/
def cutEndsSpec : ChangeSpec := { name := "cutEnds", fn := fun _ => fun
  | [d1, d2] => { results := [.lit (.bool true)], args := [d1, d2] }
  | _ => none }
def cutEndsRow : OpenClaim := { program := "ytanhhgifcolfaaa", sum := "138809c4305379a56c13e850bed687f26b2df94d32cc722131c9e7eb41b68f2e", func := "incline/inclinelaw06.CutEnds", spec := "cutEnds", unfollowed := true, recurses := true, apart := false }
def CutEndsSaid : Prop := cutEndsRow.holds Try.pinned (OpenSpec.ofChange cutEndsSpec)

/-- ITS FALSE NEIGHBOUR: 'it returns false'. Refute it at one input. -/
def cutEndsWrong : ChangeSpec := { name := "cutEnds", fn := fun _ => fun
  | [d1, d2] => { results := [.lit (.bool false)], args := [d1, d2] }
  | _ => none }
def CutEndsWrongFalsely : Prop := cutEndsRow.holds Try.pinned (OpenSpec.ofChange cutEndsWrong)

/-- 'inclinelaw06.CutFew': WHATEVER THE INPUT: true; the input reads as it did. -/
def cutFewSpec : ChangeSpec := { name := "cutFew", fn := fun _ => fun
  | [d1, d2] => { results := [.lit (.bool true)], args := [d1, d2] }
  | _ => none }
def cutFewRow : OpenClaim := { program := "ytanhhgifcolfaaa", sum := "138809c4305379a56c13e850bed687f26b2df94d32cc722131c9e7eb41b68f2e", func := "incline/inclinelaw06.CutFew", spec := "cutFew", unfollowed := true, recurses := true, apart := false }
def CutFewSaid : Prop := cutFewRow.holds Try.pinned (OpenSpec.ofChange cutFewSpec)

/-- ITS FALSE NEIGHBOUR: 'it returns false'. Refute it at one input. -/
def cutFewWrong : ChangeSpec := { name := "cutFew", fn := fun _ => fun
  | [d1, d2] => { results := [.lit (.bool false)], args := [d1, d2] }
  | _ => none }
def CutFewWrongFalsely : Prop := cutFewRow.holds Try.pinned (OpenSpec.ofChange cutFewWrong)

/-- 'inclinelaw06.CutLong': WHATEVER THE INPUT: true; the input reads as it did. -/
def cutLongSpec : ChangeSpec := { name := "cutLong", fn := fun _ => fun
  | [d1, d2] => { results := [.lit (.bool true)], args := [d1, d2] }
  | _ => none }
def cutLongRow : OpenClaim := { program := "ytanhhgifcolfaaa", sum := "138809c4305379a56c13e850bed687f26b2df94d32cc722131c9e7eb41b68f2e", func := "incline/inclinelaw06.CutLong", spec := "cutLong", unfollowed := true, recurses := true, apart := false }
def CutLongSaid : Prop := cutLongRow.holds Try.pinned (OpenSpec.ofChange cutLongSpec)

/-- ITS FALSE NEIGHBOUR: 'it returns false'. Refute it at one input. -/
def cutLongWrong : ChangeSpec := { name := "cutLong", fn := fun _ => fun
  | [d1, d2] => { results := [.lit (.bool false)], args := [d1, d2] }
  | _ => none }
def CutLongWrongFalsely : Prop := cutLongRow.holds Try.pinned (OpenSpec.ofChange cutLongWrong)

/-- 'inclinelaw06.CutComes': WHATEVER THE INPUT: true; the input reads as it did. -/
def cutComesSpec : ChangeSpec := { name := "cutComes", fn := fun _ => fun
  | [d1, d2, d3] => { results := [.lit (.bool true)], args := [d1, d2, d3] }
  | _ => none }
def cutComesRow : OpenClaim := { program := "ytanhhgifcolfaaa", sum := "138809c4305379a56c13e850bed687f26b2df94d32cc722131c9e7eb41b68f2e", func := "incline/inclinelaw06.CutComes", spec := "cutComes", unfollowed := true, recurses := true, apart := false }
def CutComesSaid : Prop := cutComesRow.holds Try.pinned (OpenSpec.ofChange cutComesSpec)

/-- ITS FALSE NEIGHBOUR: 'it returns false'. Refute it at one input. -/
def cutComesWrong : ChangeSpec := { name := "cutComes", fn := fun _ => fun
  | [d1, d2, d3] => { results := [.lit (.bool false)], args := [d1, d2, d3] }
  | _ => none }
def CutComesWrongFalsely : Prop := cutComesRow.holds Try.pinned (OpenSpec.ofChange cutComesWrong)

/-- 'inclinelaw06.CutMoved': WHATEVER THE INPUT: true; the input reads as it did. -/
def cutMovedSpec : ChangeSpec := { name := "cutMoved", fn := fun _ => fun
  | [d1, d2, d3] => { results := [.lit (.bool true)], args := [d1, d2, d3] }
  | _ => none }
def cutMovedRow : OpenClaim := { program := "ytanhhgifcolfaaa", sum := "138809c4305379a56c13e850bed687f26b2df94d32cc722131c9e7eb41b68f2e", func := "incline/inclinelaw06.CutMoved", spec := "cutMoved", unfollowed := true, recurses := true, apart := false }
def CutMovedSaid : Prop := cutMovedRow.holds Try.pinned (OpenSpec.ofChange cutMovedSpec)

/-- ITS FALSE NEIGHBOUR: 'it returns false'. Refute it at one input. -/
def cutMovedWrong : ChangeSpec := { name := "cutMoved", fn := fun _ => fun
  | [d1, d2, d3] => { results := [.lit (.bool false)], args := [d1, d2, d3] }
  | _ => none }
def CutMovedWrongFalsely : Prop := cutMovedRow.holds Try.pinned (OpenSpec.ofChange cutMovedWrong)

/- THE SECOND FORM. 'bulk': how many values and letters a reading holds, each counted each time it is reached (what is shared counts as often as it is met; a slice's spare places count too). A statement '..UptoSaid' is the law's where the arguments, and the package variables that the reading takes, are together of bulk at most 1048576: NARROWER than '..Said'. Prove '..Said' where nothing that the law and all that it calls make is longer than what came in: it says more and counts as full. Else prove '..UptoSaid'. A law counts once. -/
mutual
def uptoBulk {H : Type} : DataW H → Nat
  | .lit (.string bytes) => bytes.length + 1
  | .lit _ => 1
  | .nil => 1
  | .ptr d => uptoBulk d + 1
  | .slice elems spare => uptoBulkAll elems + uptoBulkAll spare + 1
  | .agg parts => uptoBulkAll parts + 1
  | .iface _ d => uptoBulk d + 1
  | .map entries => uptoBulkEntries entries + 1
  | .held _ => 1
def uptoBulkAll {H : Type} : List (DataW H) → Nat
  | [] => 0
  | d :: r => uptoBulk d + uptoBulkAll r
def uptoBulkEntries {H : Type} : List (Lit × DataW H) → Nat
  | [] => 0
  | x :: r => uptoBulkEntry x + uptoBulkEntries r
def uptoBulkEntry {H : Type} : Lit × DataW H → Nat
  | (.string bytes, d) => bytes.length + uptoBulk d + 1
  | (_, d) => uptoBulk d + 1
 end
def uptoSmall : (H : Type) → List (DataW H) → Bool := fun _ ds => decide (uptoBulkAll ds ≤ 1048576)
def OpenSpec.upto (s : _root_.Go.ChangeSpec) : _root_.Go.OpenSpec := { _root_.Go.OpenSpec.ofChange s with cond := some uptoSmall }

/-- 'inclinelaw04.HullRuns', WHERE WHAT IT READS IS OF BULK AT MOST 1048576: true; the input reads as it did. -/
def hullRunsUptoRow : OpenClaim := { program := "ytanhhgifcolfaaa", sum := "138809c4305379a56c13e850bed687f26b2df94d32cc722131c9e7eb41b68f2e", func := "incline/inclinelaw04.HullRuns", spec := "hullRuns", unfollowed := true, recurses := true, apart := false, narrowed := true }
def HullRunsUptoSaid : Prop := hullRunsUptoRow.holds Try.pinned (OpenSpec.upto hullRunsSpec)

/-- 'inclinelaw04.HullFirst', WHERE WHAT IT READS IS OF BULK AT MOST 1048576: true; the input reads as it did. -/
def hullFirstUptoRow : OpenClaim := { program := "ytanhhgifcolfaaa", sum := "138809c4305379a56c13e850bed687f26b2df94d32cc722131c9e7eb41b68f2e", func := "incline/inclinelaw04.HullFirst", spec := "hullFirst", unfollowed := true, recurses := true, apart := false, narrowed := true }
def HullFirstUptoSaid : Prop := hullFirstUptoRow.holds Try.pinned (OpenSpec.upto hullFirstSpec)

/-- 'inclinelaw04.HullNarrows', WHERE WHAT IT READS IS OF BULK AT MOST 1048576: true; the input reads as it did. -/
def hullNarrowsUptoRow : OpenClaim := { program := "ytanhhgifcolfaaa", sum := "138809c4305379a56c13e850bed687f26b2df94d32cc722131c9e7eb41b68f2e", func := "incline/inclinelaw04.HullNarrows", spec := "hullNarrows", unfollowed := true, recurses := true, apart := false, narrowed := true }
def HullNarrowsUptoSaid : Prop := hullNarrowsUptoRow.holds Try.pinned (OpenSpec.upto hullNarrowsSpec)

/-- 'inclinelaw04.HullFits', WHERE WHAT IT READS IS OF BULK AT MOST 1048576: true; the input reads as it did. -/
def hullFitsUptoRow : OpenClaim := { program := "ytanhhgifcolfaaa", sum := "138809c4305379a56c13e850bed687f26b2df94d32cc722131c9e7eb41b68f2e", func := "incline/inclinelaw04.HullFits", spec := "hullFits", unfollowed := true, recurses := true, apart := false, narrowed := true }
def HullFitsUptoSaid : Prop := hullFitsUptoRow.holds Try.pinned (OpenSpec.upto hullFitsSpec)

/-- 'inclinelaw04.HullMoved', WHERE WHAT IT READS IS OF BULK AT MOST 1048576: true; the input reads as it did. -/
def hullMovedUptoRow : OpenClaim := { program := "ytanhhgifcolfaaa", sum := "138809c4305379a56c13e850bed687f26b2df94d32cc722131c9e7eb41b68f2e", func := "incline/inclinelaw04.HullMoved", spec := "hullMoved", unfollowed := true, recurses := true, apart := false, narrowed := true }
def HullMovedUptoSaid : Prop := hullMovedUptoRow.holds Try.pinned (OpenSpec.upto hullMovedSpec)

/-- 'inclinelaw04.HullPlays', WHERE WHAT IT READS IS OF BULK AT MOST 1048576: true; the input reads as it did. -/
def hullPlaysUptoRow : OpenClaim := { program := "ytanhhgifcolfaaa", sum := "138809c4305379a56c13e850bed687f26b2df94d32cc722131c9e7eb41b68f2e", func := "incline/inclinelaw04.HullPlays", spec := "hullPlays", unfollowed := true, recurses := true, apart := false, narrowed := true }
def HullPlaysUptoSaid : Prop := hullPlaysUptoRow.holds Try.pinned (OpenSpec.upto hullPlaysSpec)

/-- 'inclinelaw06.CutEnds', WHERE WHAT IT READS IS OF BULK AT MOST 1048576: true; the input reads as it did. -/
def cutEndsUptoRow : OpenClaim := { program := "ytanhhgifcolfaaa", sum := "138809c4305379a56c13e850bed687f26b2df94d32cc722131c9e7eb41b68f2e", func := "incline/inclinelaw06.CutEnds", spec := "cutEnds", unfollowed := true, recurses := true, apart := false, narrowed := true }
def CutEndsUptoSaid : Prop := cutEndsUptoRow.holds Try.pinned (OpenSpec.upto cutEndsSpec)

/-- 'inclinelaw06.CutFew', WHERE WHAT IT READS IS OF BULK AT MOST 1048576: true; the input reads as it did. -/
def cutFewUptoRow : OpenClaim := { program := "ytanhhgifcolfaaa", sum := "138809c4305379a56c13e850bed687f26b2df94d32cc722131c9e7eb41b68f2e", func := "incline/inclinelaw06.CutFew", spec := "cutFew", unfollowed := true, recurses := true, apart := false, narrowed := true }
def CutFewUptoSaid : Prop := cutFewUptoRow.holds Try.pinned (OpenSpec.upto cutFewSpec)

/-- 'inclinelaw06.CutLong', WHERE WHAT IT READS IS OF BULK AT MOST 1048576: true; the input reads as it did. -/
def cutLongUptoRow : OpenClaim := { program := "ytanhhgifcolfaaa", sum := "138809c4305379a56c13e850bed687f26b2df94d32cc722131c9e7eb41b68f2e", func := "incline/inclinelaw06.CutLong", spec := "cutLong", unfollowed := true, recurses := true, apart := false, narrowed := true }
def CutLongUptoSaid : Prop := cutLongUptoRow.holds Try.pinned (OpenSpec.upto cutLongSpec)

/-- 'inclinelaw06.CutComes', WHERE WHAT IT READS IS OF BULK AT MOST 1048576: true; the input reads as it did. -/
def cutComesUptoRow : OpenClaim := { program := "ytanhhgifcolfaaa", sum := "138809c4305379a56c13e850bed687f26b2df94d32cc722131c9e7eb41b68f2e", func := "incline/inclinelaw06.CutComes", spec := "cutComes", unfollowed := true, recurses := true, apart := false, narrowed := true }
def CutComesUptoSaid : Prop := cutComesUptoRow.holds Try.pinned (OpenSpec.upto cutComesSpec)

/-- 'inclinelaw06.CutMoved', WHERE WHAT IT READS IS OF BULK AT MOST 1048576: true; the input reads as it did. -/
def cutMovedUptoRow : OpenClaim := { program := "ytanhhgifcolfaaa", sum := "138809c4305379a56c13e850bed687f26b2df94d32cc722131c9e7eb41b68f2e", func := "incline/inclinelaw06.CutMoved", spec := "cutMoved", unfollowed := true, recurses := true, apart := false, narrowed := true }
def CutMovedUptoSaid : Prop := cutMovedUptoRow.holds Try.pinned (OpenSpec.upto cutMovedSpec)

end Rows
end Go.Proofs.Ytanhhgifcolfaaa
