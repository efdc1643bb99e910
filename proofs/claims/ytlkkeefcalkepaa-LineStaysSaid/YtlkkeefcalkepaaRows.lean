/-
  No cell of these rows narrows 'for every input' (looked for: loops, veiled, ifaces, maps, wideKeys, modest, calm, conditions, laid).
  DERIVED. THE GIVEN ROWS OF THIS SEAT. 7 by the template 'for every input the law returns true; each argument reads behind the call as it read before'; 0 by the template 'total and deterministic' (their statements: YtlkkeefcalkepaaTotals.lean).
  GIVEN WITH THE SEED: the statements are not yours to turn. If you find one false, say at which input.
  Laid BY PROGRAM, IN A SANDBOX (cutbox-rows.mjs): the forced cells as the released guide's own fill.sh prints them over the translation 349c52b3a953bea4… (all of the seat's roots in one cut). By AI agents, Wed Nov 11 2026. No macro, syntax, notation, axiom, sorry.
-/
import Derived.Test.YtlkkeefcalkepaaChecked
import GoSem.Claim
import GoSem.ClaimJoined
import GoSem.ClaimMapViews
import Derived.JoinedTies
import Derived.KernelRfl
namespace Go.Proofs.Ytlkkeefcalkepaa
/- THE CELL 'sum', in the pinned program and in every row, IS THE sha256 OF THE DUMP (.gsa) THAT YtlkkeefcalkepaaProg.lean LOADS. Nothing in Lean hashes anything: it is a label: what it is worth is what the hold of that sum in a sandbox is worth. -/
noncomputable def Try.pinned : Pinned := { name := "ytlkkeefcalkepaa", sum := "349c52b3a953bea4d721a20eed4c80f2b479a3a4bbffc7a9070992ad611b030d", checked := Try.checked }
namespace Rows
def none {H : Type} : Left H := { results := [], args := [] }

/-- 'inclinelaw05.LineOf': WHATEVER THE INPUT: true; the input reads as it did. -/
def lineOfSpec : ChangeSpec := { name := "lineOf", fn := fun _ => fun
  | [d1, d2] => { results := [.lit (.bool true)], args := [d1, d2] }
  | _ => none }
def lineOfRow : OpenClaim := { program := "ytlkkeefcalkepaa", sum := "349c52b3a953bea4d721a20eed4c80f2b479a3a4bbffc7a9070992ad611b030d", func := "incline/inclinelaw05.LineOf", spec := "lineOf", unfollowed := true, recurses := true, named := ["math/bits.divideError", "math/bits.overflowError"], apart := false }
def LineOfSaid : Prop := lineOfRow.holds Try.pinned (OpenSpec.ofChange lineOfSpec)

/-- ITS FALSE NEIGHBOUR: 'it returns false'. Refute it at one input. -/
def lineOfWrong : ChangeSpec := { name := "lineOf", fn := fun _ => fun
  | [d1, d2] => { results := [.lit (.bool false)], args := [d1, d2] }
  | _ => none }
def LineOfWrongFalsely : Prop := lineOfRow.holds Try.pinned (OpenSpec.ofChange lineOfWrong)

/-- 'inclinelaw05.LineAt': WHATEVER THE INPUT: true; the input reads as it did. -/
def lineAtSpec : ChangeSpec := { name := "lineAt", fn := fun _ => fun
  | [d1, d2] => { results := [.lit (.bool true)], args := [d1, d2] }
  | _ => none }
def lineAtRow : OpenClaim := { program := "ytlkkeefcalkepaa", sum := "349c52b3a953bea4d721a20eed4c80f2b479a3a4bbffc7a9070992ad611b030d", func := "incline/inclinelaw05.LineAt", spec := "lineAt", unfollowed := true, recurses := true, named := ["math/bits.divideError", "math/bits.overflowError"], apart := false }
def LineAtSaid : Prop := lineAtRow.holds Try.pinned (OpenSpec.ofChange lineAtSpec)

/-- ITS FALSE NEIGHBOUR: 'it returns false'. Refute it at one input. -/
def lineAtWrong : ChangeSpec := { name := "lineAt", fn := fun _ => fun
  | [d1, d2] => { results := [.lit (.bool false)], args := [d1, d2] }
  | _ => none }
def LineAtWrongFalsely : Prop := lineAtRow.holds Try.pinned (OpenSpec.ofChange lineAtWrong)

/-- 'inclinelaw05.LineFits': WHATEVER THE INPUT: true; the input reads as it did. -/
def lineFitsSpec : ChangeSpec := { name := "lineFits", fn := fun _ => fun
  | [d1, d2, d3] => { results := [.lit (.bool true)], args := [d1, d2, d3] }
  | _ => none }
def lineFitsRow : OpenClaim := { program := "ytlkkeefcalkepaa", sum := "349c52b3a953bea4d721a20eed4c80f2b479a3a4bbffc7a9070992ad611b030d", func := "incline/inclinelaw05.LineFits", spec := "lineFits", unfollowed := true, recurses := true, named := ["math/bits.divideError", "math/bits.overflowError"], apart := false }
def LineFitsSaid : Prop := lineFitsRow.holds Try.pinned (OpenSpec.ofChange lineFitsSpec)

/-- ITS FALSE NEIGHBOUR: 'it returns false'. Refute it at one input. -/
def lineFitsWrong : ChangeSpec := { name := "lineFits", fn := fun _ => fun
  | [d1, d2, d3] => { results := [.lit (.bool false)], args := [d1, d2, d3] }
  | _ => none }
def LineFitsWrongFalsely : Prop := lineFitsRow.holds Try.pinned (OpenSpec.ofChange lineFitsWrong)

/-- 'inclinelaw05.LineStays': WHATEVER THE INPUT: true; the input reads as it did. -/
def lineStaysSpec : ChangeSpec := { name := "lineStays", fn := fun _ => fun
  | [d1, d2, d3] => { results := [.lit (.bool true)], args := [d1, d2, d3] }
  | _ => none }
def lineStaysRow : OpenClaim := { program := "ytlkkeefcalkepaa", sum := "349c52b3a953bea4d721a20eed4c80f2b479a3a4bbffc7a9070992ad611b030d", func := "incline/inclinelaw05.LineStays", spec := "lineStays", unfollowed := true, recurses := true, named := ["math/bits.divideError", "math/bits.overflowError"], apart := false }
def LineStaysSaid : Prop := lineStaysRow.holds Try.pinned (OpenSpec.ofChange lineStaysSpec)

/-- ITS FALSE NEIGHBOUR: 'it returns false'. Refute it at one input. -/
def lineStaysWrong : ChangeSpec := { name := "lineStays", fn := fun _ => fun
  | [d1, d2, d3] => { results := [.lit (.bool false)], args := [d1, d2, d3] }
  | _ => none }
def LineStaysWrongFalsely : Prop := lineStaysRow.holds Try.pinned (OpenSpec.ofChange lineStaysWrong)

/-- 'inclinelaw05.LineMoved': WHATEVER THE INPUT: true; the input reads as it did. -/
def lineMovedSpec : ChangeSpec := { name := "lineMoved", fn := fun _ => fun
  | [d1, d2, d3] => { results := [.lit (.bool true)], args := [d1, d2, d3] }
  | _ => none }
def lineMovedRow : OpenClaim := { program := "ytlkkeefcalkepaa", sum := "349c52b3a953bea4d721a20eed4c80f2b479a3a4bbffc7a9070992ad611b030d", func := "incline/inclinelaw05.LineMoved", spec := "lineMoved", unfollowed := true, recurses := true, named := ["math/bits.divideError", "math/bits.overflowError"], apart := false }
def LineMovedSaid : Prop := lineMovedRow.holds Try.pinned (OpenSpec.ofChange lineMovedSpec)

/-- ITS FALSE NEIGHBOUR: 'it returns false'. Refute it at one input. -/
def lineMovedWrong : ChangeSpec := { name := "lineMoved", fn := fun _ => fun
  | [d1, d2, d3] => { results := [.lit (.bool false)], args := [d1, d2, d3] }
  | _ => none }
def LineMovedWrongFalsely : Prop := lineMovedRow.holds Try.pinned (OpenSpec.ofChange lineMovedWrong)

/-- 'inclinelaw05.LineBegins': WHATEVER THE INPUT: true; the input reads as it did. -/
def lineBeginsSpec : ChangeSpec := { name := "lineBegins", fn := fun _ => fun
  | [d1, d2, d3] => { results := [.lit (.bool true)], args := [d1, d2, d3] }
  | _ => none }
def lineBeginsRow : OpenClaim := { program := "ytlkkeefcalkepaa", sum := "349c52b3a953bea4d721a20eed4c80f2b479a3a4bbffc7a9070992ad611b030d", func := "incline/inclinelaw05.LineBegins", spec := "lineBegins", unfollowed := true, recurses := true, named := ["math/bits.divideError", "math/bits.overflowError"], apart := false }
def LineBeginsSaid : Prop := lineBeginsRow.holds Try.pinned (OpenSpec.ofChange lineBeginsSpec)

/-- ITS FALSE NEIGHBOUR: 'it returns false'. Refute it at one input. -/
def lineBeginsWrong : ChangeSpec := { name := "lineBegins", fn := fun _ => fun
  | [d1, d2, d3] => { results := [.lit (.bool false)], args := [d1, d2, d3] }
  | _ => none }
def LineBeginsWrongFalsely : Prop := lineBeginsRow.holds Try.pinned (OpenSpec.ofChange lineBeginsWrong)

/-- 'inclinelaw05.LineWider': WHATEVER THE INPUT: true; the input reads as it did. -/
def lineWiderSpec : ChangeSpec := { name := "lineWider", fn := fun _ => fun
  | [d1, d2, d3] => { results := [.lit (.bool true)], args := [d1, d2, d3] }
  | _ => none }
def lineWiderRow : OpenClaim := { program := "ytlkkeefcalkepaa", sum := "349c52b3a953bea4d721a20eed4c80f2b479a3a4bbffc7a9070992ad611b030d", func := "incline/inclinelaw05.LineWider", spec := "lineWider", unfollowed := true, recurses := true, named := ["math/bits.divideError", "math/bits.overflowError"], apart := false }
def LineWiderSaid : Prop := lineWiderRow.holds Try.pinned (OpenSpec.ofChange lineWiderSpec)

/-- ITS FALSE NEIGHBOUR: 'it returns false'. Refute it at one input. -/
def lineWiderWrong : ChangeSpec := { name := "lineWider", fn := fun _ => fun
  | [d1, d2, d3] => { results := [.lit (.bool false)], args := [d1, d2, d3] }
  | _ => none }
def LineWiderWrongFalsely : Prop := lineWiderRow.holds Try.pinned (OpenSpec.ofChange lineWiderWrong)

/- THE SECOND FORM. 'bulk': how many values and letters a reading holds, each counted each time it is reached (what is shared counts as often as it is met; a slice's spare places count too). A statement '..UptoSaid' is the law's where the arguments, and the package variables that the reading takes, are together of bulk at most 1048576: NARROWER than '..Said'. Prove '..Said' where nothing that the law and all that it calls make is longer than what came in: it says more and counts as full. Else prove '..UptoSaid'. A law counts once. -/
mutual
def uptoBulk {H : Type} : DataW H → Nat
  | .lit (.string bytes) => bytes.length + 1
  | .lit _ => 1
  | .nil => 1
  | .ptr d => uptoBulk d + 1
  | .slice elems spare => uptoBulkAll elems + uptoBulkAll spare + 1
  | .agg parts => uptoBulkAll parts + 1
  | .iface _ d => uptoBulk d + 1
  | .map entries => uptoBulkEntries entries + 1
  | .held _ => 1
def uptoBulkAll {H : Type} : List (DataW H) → Nat
  | [] => 0
  | d :: r => uptoBulk d + uptoBulkAll r
def uptoBulkEntries {H : Type} : List (Lit × DataW H) → Nat
  | [] => 0
  | x :: r => uptoBulkEntry x + uptoBulkEntries r
def uptoBulkEntry {H : Type} : Lit × DataW H → Nat
  | (.string bytes, d) => bytes.length + uptoBulk d + 1
  | (_, d) => uptoBulk d + 1
 end
def uptoSmall : (H : Type) → List (DataW H) → Bool := fun _ ds => decide (uptoBulkAll ds ≤ 1048576)
def OpenSpec.upto (s : _root_.Go.ChangeSpec) : _root_.Go.OpenSpec := { _root_.Go.OpenSpec.ofChange s with cond := some uptoSmall }

/-- 'inclinelaw05.LineOf', WHERE WHAT IT READS IS OF BULK AT MOST 1048576: true; the input reads as it did. -/
def lineOfUptoRow : OpenClaim := { program := "ytlkkeefcalkepaa", sum := "349c52b3a953bea4d721a20eed4c80f2b479a3a4bbffc7a9070992ad611b030d", func := "incline/inclinelaw05.LineOf", spec := "lineOf", unfollowed := true, recurses := true, named := ["math/bits.divideError", "math/bits.overflowError"], apart := false, narrowed := true }
def LineOfUptoSaid : Prop := lineOfUptoRow.holds Try.pinned (OpenSpec.upto lineOfSpec)

/-- 'inclinelaw05.LineAt', WHERE WHAT IT READS IS OF BULK AT MOST 1048576: true; the input reads as it did. -/
def lineAtUptoRow : OpenClaim := { program := "ytlkkeefcalkepaa", sum := "349c52b3a953bea4d721a20eed4c80f2b479a3a4bbffc7a9070992ad611b030d", func := "incline/inclinelaw05.LineAt", spec := "lineAt", unfollowed := true, recurses := true, named := ["math/bits.divideError", "math/bits.overflowError"], apart := false, narrowed := true }
def LineAtUptoSaid : Prop := lineAtUptoRow.holds Try.pinned (OpenSpec.upto lineAtSpec)

/-- 'inclinelaw05.LineFits', WHERE WHAT IT READS IS OF BULK AT MOST 1048576: true; the input reads as it did. -/
def lineFitsUptoRow : OpenClaim := { program := "ytlkkeefcalkepaa", sum := "349c52b3a953bea4d721a20eed4c80f2b479a3a4bbffc7a9070992ad611b030d", func := "incline/inclinelaw05.LineFits", spec := "lineFits", unfollowed := true, recurses := true, named := ["math/bits.divideError", "math/bits.overflowError"], apart := false, narrowed := true }
def LineFitsUptoSaid : Prop := lineFitsUptoRow.holds Try.pinned (OpenSpec.upto lineFitsSpec)

/-- 'inclinelaw05.LineStays', WHERE WHAT IT READS IS OF BULK AT MOST 1048576: true; the input reads as it did. -/
def lineStaysUptoRow : OpenClaim := { program := "ytlkkeefcalkepaa", sum := "349c52b3a953bea4d721a20eed4c80f2b479a3a4bbffc7a9070992ad611b030d", func := "incline/inclinelaw05.LineStays", spec := "lineStays", unfollowed := true, recurses := true, named := ["math/bits.divideError", "math/bits.overflowError"], apart := false, narrowed := true }
def LineStaysUptoSaid : Prop := lineStaysUptoRow.holds Try.pinned (OpenSpec.upto lineStaysSpec)

/-- 'inclinelaw05.LineMoved', WHERE WHAT IT READS IS OF BULK AT MOST 1048576: true; the input reads as it did. -/
def lineMovedUptoRow : OpenClaim := { program := "ytlkkeefcalkepaa", sum := "349c52b3a953bea4d721a20eed4c80f2b479a3a4bbffc7a9070992ad611b030d", func := "incline/inclinelaw05.LineMoved", spec := "lineMoved", unfollowed := true, recurses := true, named := ["math/bits.divideError", "math/bits.overflowError"], apart := false, narrowed := true }
def LineMovedUptoSaid : Prop := lineMovedUptoRow.holds Try.pinned (OpenSpec.upto lineMovedSpec)

/-- 'inclinelaw05.LineBegins', WHERE WHAT IT READS IS OF BULK AT MOST 1048576: true; the input reads as it did. -/
def lineBeginsUptoRow : OpenClaim := { program := "ytlkkeefcalkepaa", sum := "349c52b3a953bea4d721a20eed4c80f2b479a3a4bbffc7a9070992ad611b030d", func := "incline/inclinelaw05.LineBegins", spec := "lineBegins", unfollowed := true, recurses := true, named := ["math/bits.divideError", "math/bits.overflowError"], apart := false, narrowed := true }
def LineBeginsUptoSaid : Prop := lineBeginsUptoRow.holds Try.pinned (OpenSpec.upto lineBeginsSpec)

/-- 'inclinelaw05.LineWider', WHERE WHAT IT READS IS OF BULK AT MOST 1048576: true; the input reads as it did. -/
def lineWiderUptoRow : OpenClaim := { program := "ytlkkeefcalkepaa", sum := "349c52b3a953bea4d721a20eed4c80f2b479a3a4bbffc7a9070992ad611b030d", func := "incline/inclinelaw05.LineWider", spec := "lineWider", unfollowed := true, recurses := true, named := ["math/bits.divideError", "math/bits.overflowError"], apart := false, narrowed := true }
def LineWiderUptoSaid : Prop := lineWiderUptoRow.holds Try.pinned (OpenSpec.upto lineWiderSpec)

end Rows
end Go.Proofs.Ytlkkeefcalkepaa
