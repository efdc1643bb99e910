/-
  No cell of these rows narrows 'for every input' (looked for: loops, veiled, ifaces, maps, wideKeys, modest, calm, conditions, laid).
  DERIVED. THE GIVEN ROWS OF THIS SEAT. 8 by the template 'for every input the law returns true; each argument reads behind the call as it read before'; 0 by the template 'total and deterministic' (their statements: YtcnhgblpeonmgaaTotals.lean).
  GIVEN WITH THE SEED: the statements are not yours to turn. If you find one false, say at which input.
  Laid BY PROGRAM, IN A SANDBOX (cutbox-rows.mjs): the forced cells as the released guide's own fill.sh prints them over the translation 28314fb7abd113e6… (all of the seat's roots in one cut). By AI agents, Wed Nov 11 2026. No macro, syntax, notation, axiom, sorry.
-/
import Derived.Test.YtcnhgblpeonmgaaChecked
import GoSem.Claim
import GoSem.ClaimJoined
import GoSem.ClaimMapViews
import Derived.JoinedTies
import Derived.KernelRfl
namespace Go.Proofs.Ytcnhgblpeonmgaa
/- THE CELL 'sum', in the pinned program and in every row, IS THE sha256 OF THE DUMP (.gsa) THAT YtcnhgblpeonmgaaProg.lean LOADS. Nothing in Lean hashes anything: it is a label: what it is worth is what the hold of that sum in a sandbox is worth. -/
noncomputable def Try.pinned : Pinned := { name := "ytcnhgblpeonmgaa", sum := "28314fb7abd113e608fe82efa75b3507c685c7f60b25028f093118c6fe2833c9", checked := Try.checked }
namespace Rows
def none {H : Type} : Left H := { results := [], args := [] }

/-- 'inclinelaw02.RatioNear': WHATEVER THE INPUT: true; the input reads as it did. -/
def ratioNearSpec : ChangeSpec := { name := "ratioNear", fn := fun _ => fun
  | [d1, d2] => { results := [.lit (.bool true)], args := [d1, d2] }
  | _ => none }
def ratioNearRow : OpenClaim := { program := "ytcnhgblpeonmgaa", sum := "28314fb7abd113e608fe82efa75b3507c685c7f60b25028f093118c6fe2833c9", func := "incline/inclinelaw02.RatioNear", spec := "ratioNear", inPlace := ["math.Float64bits", "math.Float64frombits", "math.archFloor", "math.archTrunc"], named := ["math/bits.divideError", "math/bits.overflowError"], apart := false }
def RatioNearSaid : Prop := ratioNearRow.holds Try.pinned (OpenSpec.ofChange ratioNearSpec)

/-- ITS FALSE NEIGHBOUR: 'it returns false'. Refute it at one input. -/
def ratioNearWrong : ChangeSpec := { name := "ratioNear", fn := fun _ => fun
  | [d1, d2] => { results := [.lit (.bool false)], args := [d1, d2] }
  | _ => none }
def RatioNearWrongFalsely : Prop := ratioNearRow.holds Try.pinned (OpenSpec.ofChange ratioNearWrong)

/-- 'inclinelaw02.RatioNearest': WHATEVER THE INPUT: true; the input reads as it did. -/
def ratioNearestSpec : ChangeSpec := { name := "ratioNearest", fn := fun _ => fun
  | [d] => { results := [.lit (.bool true)], args := [d] }
  | _ => none }
def ratioNearestRow : OpenClaim := { program := "ytcnhgblpeonmgaa", sum := "28314fb7abd113e608fe82efa75b3507c685c7f60b25028f093118c6fe2833c9", func := "incline/inclinelaw02.RatioNearest", spec := "ratioNearest", inPlace := ["math.Float64bits", "math.Float64frombits", "math.archFloor", "math.archTrunc"], named := ["math/bits.divideError", "math/bits.overflowError"], apart := false }
def RatioNearestSaid : Prop := ratioNearestRow.holds Try.pinned (OpenSpec.ofChange ratioNearestSpec)

/-- ITS FALSE NEIGHBOUR: 'it returns false'. Refute it at one input. -/
def ratioNearestWrong : ChangeSpec := { name := "ratioNearest", fn := fun _ => fun
  | [d] => { results := [.lit (.bool false)], args := [d] }
  | _ => none }
def RatioNearestWrongFalsely : Prop := ratioNearestRow.holds Try.pinned (OpenSpec.ofChange ratioNearestWrong)

/-- 'inclinelaw02.RatioLowest': WHATEVER THE INPUT: true; the input reads as it did. -/
def ratioLowestSpec : ChangeSpec := { name := "ratioLowest", fn := fun _ => fun
  | [d1, d2] => { results := [.lit (.bool true)], args := [d1, d2] }
  | _ => none }
def ratioLowestRow : OpenClaim := { program := "ytcnhgblpeonmgaa", sum := "28314fb7abd113e608fe82efa75b3507c685c7f60b25028f093118c6fe2833c9", func := "incline/inclinelaw02.RatioLowest", spec := "ratioLowest", inPlace := ["math.Float64bits", "math.Float64frombits", "math.archFloor", "math.archTrunc"], named := ["math/bits.divideError", "math/bits.overflowError"], apart := false }
def RatioLowestSaid : Prop := ratioLowestRow.holds Try.pinned (OpenSpec.ofChange ratioLowestSpec)

/-- ITS FALSE NEIGHBOUR: 'it returns false'. Refute it at one input. -/
def ratioLowestWrong : ChangeSpec := { name := "ratioLowest", fn := fun _ => fun
  | [d1, d2] => { results := [.lit (.bool false)], args := [d1, d2] }
  | _ => none }
def RatioLowestWrongFalsely : Prop := ratioLowestRow.holds Try.pinned (OpenSpec.ofChange ratioLowestWrong)

/-- 'inclinelaw02.RatioCmp': WHATEVER THE INPUT: true; the input reads as it did. -/
def ratioCmpSpec : ChangeSpec := { name := "ratioCmp", fn := fun _ => fun
  | [d1, d2, d3] => { results := [.lit (.bool true)], args := [d1, d2, d3] }
  | _ => none }
def ratioCmpRow : OpenClaim := { program := "ytcnhgblpeonmgaa", sum := "28314fb7abd113e608fe82efa75b3507c685c7f60b25028f093118c6fe2833c9", func := "incline/inclinelaw02.RatioCmp", spec := "ratioCmp", inPlace := ["math.Float64bits", "math.Float64frombits", "math.archFloor", "math.archTrunc"], named := ["math/bits.divideError", "math/bits.overflowError"], apart := false }
def RatioCmpSaid : Prop := ratioCmpRow.holds Try.pinned (OpenSpec.ofChange ratioCmpSpec)

/-- ITS FALSE NEIGHBOUR: 'it returns false'. Refute it at one input. -/
def ratioCmpWrong : ChangeSpec := { name := "ratioCmp", fn := fun _ => fun
  | [d1, d2, d3] => { results := [.lit (.bool false)], args := [d1, d2, d3] }
  | _ => none }
def RatioCmpWrongFalsely : Prop := ratioCmpRow.holds Try.pinned (OpenSpec.ofChange ratioCmpWrong)

/-- 'inclinelaw02.RatioNearBy': WHATEVER THE INPUT: true; the input reads as it did. -/
def ratioNearBySpec : ChangeSpec := { name := "ratioNearBy", fn := fun _ => fun
  | [d1, d2] => { results := [.lit (.bool true)], args := [d1, d2] }
  | _ => none }
def ratioNearByRow : OpenClaim := { program := "ytcnhgblpeonmgaa", sum := "28314fb7abd113e608fe82efa75b3507c685c7f60b25028f093118c6fe2833c9", func := "incline/inclinelaw02.RatioNearBy", spec := "ratioNearBy", inPlace := ["math.Float64bits", "math.Float64frombits", "math.archFloor", "math.archTrunc"], named := ["math/bits.divideError", "math/bits.overflowError"], apart := false }
def RatioNearBySaid : Prop := ratioNearByRow.holds Try.pinned (OpenSpec.ofChange ratioNearBySpec)

/-- ITS FALSE NEIGHBOUR: 'it returns false'. Refute it at one input. -/
def ratioNearByWrong : ChangeSpec := { name := "ratioNearBy", fn := fun _ => fun
  | [d1, d2] => { results := [.lit (.bool false)], args := [d1, d2] }
  | _ => none }
def RatioNearByWrongFalsely : Prop := ratioNearByRow.holds Try.pinned (OpenSpec.ofChange ratioNearByWrong)

/-- 'inclinelaw02.RatioClamp': WHATEVER THE INPUT: true; the input reads as it did. -/
def ratioClampSpec : ChangeSpec := { name := "ratioClamp", fn := fun _ => fun
  | [d1, d2, d3] => { results := [.lit (.bool true)], args := [d1, d2, d3] }
  | _ => none }
def ratioClampRow : OpenClaim := { program := "ytcnhgblpeonmgaa", sum := "28314fb7abd113e608fe82efa75b3507c685c7f60b25028f093118c6fe2833c9", func := "incline/inclinelaw02.RatioClamp", spec := "ratioClamp", inPlace := ["math.Float64bits", "math.Float64frombits", "math.archFloor", "math.archTrunc"], named := ["math/bits.divideError", "math/bits.overflowError"], apart := false }
def RatioClampSaid : Prop := ratioClampRow.holds Try.pinned (OpenSpec.ofChange ratioClampSpec)

/-- ITS FALSE NEIGHBOUR: 'it returns false'. Refute it at one input. -/
def ratioClampWrong : ChangeSpec := { name := "ratioClamp", fn := fun _ => fun
  | [d1, d2, d3] => { results := [.lit (.bool false)], args := [d1, d2, d3] }
  | _ => none }
def RatioClampWrongFalsely : Prop := ratioClampRow.holds Try.pinned (OpenSpec.ofChange ratioClampWrong)

/-- 'inclinelaw02.RatioAlong': WHATEVER THE INPUT: true; the input reads as it did. -/
def ratioAlongSpec : ChangeSpec := { name := "ratioAlong", fn := fun _ => fun
  | [d1, d2, d3] => { results := [.lit (.bool true)], args := [d1, d2, d3] }
  | _ => none }
def ratioAlongRow : OpenClaim := { program := "ytcnhgblpeonmgaa", sum := "28314fb7abd113e608fe82efa75b3507c685c7f60b25028f093118c6fe2833c9", func := "incline/inclinelaw02.RatioAlong", spec := "ratioAlong", inPlace := ["math.Float64bits", "math.Float64frombits", "math.archFloor", "math.archTrunc"], named := ["math/bits.divideError", "math/bits.overflowError"], apart := false }
def RatioAlongSaid : Prop := ratioAlongRow.holds Try.pinned (OpenSpec.ofChange ratioAlongSpec)

/-- ITS FALSE NEIGHBOUR: 'it returns false'. Refute it at one input. -/
def ratioAlongWrong : ChangeSpec := { name := "ratioAlong", fn := fun _ => fun
  | [d1, d2, d3] => { results := [.lit (.bool false)], args := [d1, d2, d3] }
  | _ => none }
def RatioAlongWrongFalsely : Prop := ratioAlongRow.holds Try.pinned (OpenSpec.ofChange ratioAlongWrong)

/-- 'inclinelaw02.RatioRises': WHATEVER THE INPUT: true; the input reads as it did. -/
def ratioRisesSpec : ChangeSpec := { name := "ratioRises", fn := fun _ => fun
  | [d1, d2] => { results := [.lit (.bool true)], args := [d1, d2] }
  | _ => none }
def ratioRisesRow : OpenClaim := { program := "ytcnhgblpeonmgaa", sum := "28314fb7abd113e608fe82efa75b3507c685c7f60b25028f093118c6fe2833c9", func := "incline/inclinelaw02.RatioRises", spec := "ratioRises", inPlace := ["math.Float64bits", "math.Float64frombits", "math.archFloor", "math.archTrunc"], named := ["math/bits.divideError", "math/bits.overflowError"], apart := false }
def RatioRisesSaid : Prop := ratioRisesRow.holds Try.pinned (OpenSpec.ofChange ratioRisesSpec)

/-- ITS FALSE NEIGHBOUR: 'it returns false'. Refute it at one input. -/
def ratioRisesWrong : ChangeSpec := { name := "ratioRises", fn := fun _ => fun
  | [d1, d2] => { results := [.lit (.bool false)], args := [d1, d2] }
  | _ => none }
def RatioRisesWrongFalsely : Prop := ratioRisesRow.holds Try.pinned (OpenSpec.ofChange ratioRisesWrong)

/- THE SECOND FORM. 'bulk': how many values and letters a reading holds, each counted each time it is reached (what is shared counts as often as it is met; a slice's spare places count too). A statement '..UptoSaid' is the law's where the arguments, and the package variables that the reading takes, are together of bulk at most 1048576: NARROWER than '..Said'. Prove '..Said' where nothing that the law and all that it calls make is longer than what came in: it says more and counts as full. Else prove '..UptoSaid'. A law counts once. -/
mutual
def uptoBulk {H : Type} : DataW H → Nat
  | .lit (.string bytes) => bytes.length + 1
  | .lit _ => 1
  | .nil => 1
  | .ptr d => uptoBulk d + 1
  | .slice elems spare => uptoBulkAll elems + uptoBulkAll spare + 1
  | .agg parts => uptoBulkAll parts + 1
  | .iface _ d => uptoBulk d + 1
  | .map entries => uptoBulkEntries entries + 1
  | .held _ => 1
def uptoBulkAll {H : Type} : List (DataW H) → Nat
  | [] => 0
  | d :: r => uptoBulk d + uptoBulkAll r
def uptoBulkEntries {H : Type} : List (Lit × DataW H) → Nat
  | [] => 0
  | x :: r => uptoBulkEntry x + uptoBulkEntries r
def uptoBulkEntry {H : Type} : Lit × DataW H → Nat
  | (.string bytes, d) => bytes.length + uptoBulk d + 1
  | (_, d) => uptoBulk d + 1
 end
def uptoSmall : (H : Type) → List (DataW H) → Bool := fun _ ds => decide (uptoBulkAll ds ≤ 1048576)
def OpenSpec.upto (s : _root_.Go.ChangeSpec) : _root_.Go.OpenSpec := { _root_.Go.OpenSpec.ofChange s with cond := some uptoSmall }

/-- 'inclinelaw02.RatioNear', WHERE WHAT IT READS IS OF BULK AT MOST 1048576: true; the input reads as it did. -/
def ratioNearUptoRow : OpenClaim := { program := "ytcnhgblpeonmgaa", sum := "28314fb7abd113e608fe82efa75b3507c685c7f60b25028f093118c6fe2833c9", func := "incline/inclinelaw02.RatioNear", spec := "ratioNear", inPlace := ["math.Float64bits", "math.Float64frombits", "math.archFloor", "math.archTrunc"], named := ["math/bits.divideError", "math/bits.overflowError"], apart := false, narrowed := true }
def RatioNearUptoSaid : Prop := ratioNearUptoRow.holds Try.pinned (OpenSpec.upto ratioNearSpec)

/-- 'inclinelaw02.RatioNearest', WHERE WHAT IT READS IS OF BULK AT MOST 1048576: true; the input reads as it did. -/
def ratioNearestUptoRow : OpenClaim := { program := "ytcnhgblpeonmgaa", sum := "28314fb7abd113e608fe82efa75b3507c685c7f60b25028f093118c6fe2833c9", func := "incline/inclinelaw02.RatioNearest", spec := "ratioNearest", inPlace := ["math.Float64bits", "math.Float64frombits", "math.archFloor", "math.archTrunc"], named := ["math/bits.divideError", "math/bits.overflowError"], apart := false, narrowed := true }
def RatioNearestUptoSaid : Prop := ratioNearestUptoRow.holds Try.pinned (OpenSpec.upto ratioNearestSpec)

/-- 'inclinelaw02.RatioLowest', WHERE WHAT IT READS IS OF BULK AT MOST 1048576: true; the input reads as it did. -/
def ratioLowestUptoRow : OpenClaim := { program := "ytcnhgblpeonmgaa", sum := "28314fb7abd113e608fe82efa75b3507c685c7f60b25028f093118c6fe2833c9", func := "incline/inclinelaw02.RatioLowest", spec := "ratioLowest", inPlace := ["math.Float64bits", "math.Float64frombits", "math.archFloor", "math.archTrunc"], named := ["math/bits.divideError", "math/bits.overflowError"], apart := false, narrowed := true }
def RatioLowestUptoSaid : Prop := ratioLowestUptoRow.holds Try.pinned (OpenSpec.upto ratioLowestSpec)

/-- 'inclinelaw02.RatioCmp', WHERE WHAT IT READS IS OF BULK AT MOST 1048576: true; the input reads as it did. -/
def ratioCmpUptoRow : OpenClaim := { program := "ytcnhgblpeonmgaa", sum := "28314fb7abd113e608fe82efa75b3507c685c7f60b25028f093118c6fe2833c9", func := "incline/inclinelaw02.RatioCmp", spec := "ratioCmp", inPlace := ["math.Float64bits", "math.Float64frombits", "math.archFloor", "math.archTrunc"], named := ["math/bits.divideError", "math/bits.overflowError"], apart := false, narrowed := true }
def RatioCmpUptoSaid : Prop := ratioCmpUptoRow.holds Try.pinned (OpenSpec.upto ratioCmpSpec)

/-- 'inclinelaw02.RatioNearBy', WHERE WHAT IT READS IS OF BULK AT MOST 1048576: true; the input reads as it did. -/
def ratioNearByUptoRow : OpenClaim := { program := "ytcnhgblpeonmgaa", sum := "28314fb7abd113e608fe82efa75b3507c685c7f60b25028f093118c6fe2833c9", func := "incline/inclinelaw02.RatioNearBy", spec := "ratioNearBy", inPlace := ["math.Float64bits", "math.Float64frombits", "math.archFloor", "math.archTrunc"], named := ["math/bits.divideError", "math/bits.overflowError"], apart := false, narrowed := true }
def RatioNearByUptoSaid : Prop := ratioNearByUptoRow.holds Try.pinned (OpenSpec.upto ratioNearBySpec)

/-- 'inclinelaw02.RatioClamp', WHERE WHAT IT READS IS OF BULK AT MOST 1048576: true; the input reads as it did. -/
def ratioClampUptoRow : OpenClaim := { program := "ytcnhgblpeonmgaa", sum := "28314fb7abd113e608fe82efa75b3507c685c7f60b25028f093118c6fe2833c9", func := "incline/inclinelaw02.RatioClamp", spec := "ratioClamp", inPlace := ["math.Float64bits", "math.Float64frombits", "math.archFloor", "math.archTrunc"], named := ["math/bits.divideError", "math/bits.overflowError"], apart := false, narrowed := true }
def RatioClampUptoSaid : Prop := ratioClampUptoRow.holds Try.pinned (OpenSpec.upto ratioClampSpec)

/-- 'inclinelaw02.RatioAlong', WHERE WHAT IT READS IS OF BULK AT MOST 1048576: true; the input reads as it did. -/
def ratioAlongUptoRow : OpenClaim := { program := "ytcnhgblpeonmgaa", sum := "28314fb7abd113e608fe82efa75b3507c685c7f60b25028f093118c6fe2833c9", func := "incline/inclinelaw02.RatioAlong", spec := "ratioAlong", inPlace := ["math.Float64bits", "math.Float64frombits", "math.archFloor", "math.archTrunc"], named := ["math/bits.divideError", "math/bits.overflowError"], apart := false, narrowed := true }
def RatioAlongUptoSaid : Prop := ratioAlongUptoRow.holds Try.pinned (OpenSpec.upto ratioAlongSpec)

/-- 'inclinelaw02.RatioRises', WHERE WHAT IT READS IS OF BULK AT MOST 1048576: true; the input reads as it did. -/
def ratioRisesUptoRow : OpenClaim := { program := "ytcnhgblpeonmgaa", sum := "28314fb7abd113e608fe82efa75b3507c685c7f60b25028f093118c6fe2833c9", func := "incline/inclinelaw02.RatioRises", spec := "ratioRises", inPlace := ["math.Float64bits", "math.Float64frombits", "math.archFloor", "math.archTrunc"], named := ["math/bits.divideError", "math/bits.overflowError"], apart := false, narrowed := true }
def RatioRisesUptoSaid : Prop := ratioRisesUptoRow.holds Try.pinned (OpenSpec.upto ratioRisesSpec)

end Rows
end Go.Proofs.Ytcnhgblpeonmgaa
