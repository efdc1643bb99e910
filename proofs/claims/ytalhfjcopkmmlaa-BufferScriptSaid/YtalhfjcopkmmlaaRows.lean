/-
  No cell of these rows narrows 'for every input' (looked for: loops, veiled, ifaces, maps, wideKeys, modest, calm, conditions, laid).
  DERIVED. THE GIVEN ROWS OF THIS SEAT. 3 by the template 'for every input the law returns true; each argument reads behind the call as it read before'; 0 by the template 'total and deterministic' (their statements: YtalhfjcopkmmlaaTotals.lean).
  GIVEN WITH THE SEED: the statements are not yours to turn. If you find one false, say at which input.
  Laid BY PROGRAM, IN A SANDBOX (cutbox-rows.mjs): the forced cells as the released guide's own fill.sh prints them over the translation e3d0831e62363076… (all of the seat's roots in one cut). By AI agents, Wed Nov 11 2026. No macro, syntax, notation, axiom, sorry.
-/
import Derived.Test.YtalhfjcopkmmlaaChecked
import GoSem.Claim
import GoSem.ClaimJoined
import GoSem.ClaimMapViews
import Derived.JoinedTies
import Derived.KernelRfl
namespace Go.Proofs.Ytalhfjcopkmmlaa
/- THE CELL 'sum', in the pinned program and in every row, IS THE sha256 OF THE DUMP (.gsa) THAT YtalhfjcopkmmlaaProg.lean LOADS. Nothing in Lean hashes anything: it is a label: what it is worth is what the hold of that sum in a sandbox is worth. -/
noncomputable def Try.pinned : Pinned := { name := "ytalhfjcopkmmlaa", sum := "e3d0831e6236307673c5ff983ba516d103e9accbb78966d129fae491a6ed8ab9", checked := Try.checked }
namespace Rows
def none {H : Type} : Left H := { results := [], args := [] }

/-- 'inclinelaw14.BufferOrder': WHATEVER THE INPUT: true; the input reads as it did. -/
def bufferOrderSpec : ChangeSpec := { name := "bufferOrder", fn := fun _ => fun
  | [d1, d2, d3] => { results := [.lit (.bool true)], args := [d1, d2, d3] }
  | _ => none }
def bufferOrderRow : OpenClaim := { program := "ytalhfjcopkmmlaa", sum := "e3d0831e6236307673c5ff983ba516d103e9accbb78966d129fae491a6ed8ab9", func := "incline/inclinelaw14.BufferOrder", spec := "bufferOrder", unfollowed := true, recurses := true, apart := false }
def BufferOrderSaid : Prop := bufferOrderRow.holds Try.pinned (OpenSpec.ofChange bufferOrderSpec)

/-- ITS FALSE NEIGHBOUR: 'it returns false'. Refute it at one input. -/
def bufferOrderWrong : ChangeSpec := { name := "bufferOrder", fn := fun _ => fun
  | [d1, d2, d3] => { results := [.lit (.bool false)], args := [d1, d2, d3] }
  | _ => none }
def BufferOrderWrongFalsely : Prop := bufferOrderRow.holds Try.pinned (OpenSpec.ofChange bufferOrderWrong)

/-- 'inclinelaw14.BufferLast': WHATEVER THE INPUT: true; the input reads as it did. -/
def bufferLastSpec : ChangeSpec := { name := "bufferLast", fn := fun _ => fun
  | [d] => { results := [.lit (.bool true)], args := [d] }
  | _ => none }
def bufferLastRow : OpenClaim := { program := "ytalhfjcopkmmlaa", sum := "e3d0831e6236307673c5ff983ba516d103e9accbb78966d129fae491a6ed8ab9", func := "incline/inclinelaw14.BufferLast", spec := "bufferLast", unfollowed := true, recurses := true, apart := false }
def BufferLastSaid : Prop := bufferLastRow.holds Try.pinned (OpenSpec.ofChange bufferLastSpec)

/-- ITS FALSE NEIGHBOUR: 'it returns false'. Refute it at one input. -/
def bufferLastWrong : ChangeSpec := { name := "bufferLast", fn := fun _ => fun
  | [d] => { results := [.lit (.bool false)], args := [d] }
  | _ => none }
def BufferLastWrongFalsely : Prop := bufferLastRow.holds Try.pinned (OpenSpec.ofChange bufferLastWrong)

/-- 'inclinelaw14.BufferScript': WHATEVER THE INPUT: true; the input reads as it did. -/
def bufferScriptSpec : ChangeSpec := { name := "bufferScript", fn := fun _ => fun
  | [d1, d2] => { results := [.lit (.bool true)], args := [d1, d2] }
  | _ => none }
def bufferScriptRow : OpenClaim := { program := "ytalhfjcopkmmlaa", sum := "e3d0831e6236307673c5ff983ba516d103e9accbb78966d129fae491a6ed8ab9", func := "incline/inclinelaw14.BufferScript", spec := "bufferScript", unfollowed := true, recurses := true, apart := false }
def BufferScriptSaid : Prop := bufferScriptRow.holds Try.pinned (OpenSpec.ofChange bufferScriptSpec)

/-- ITS FALSE NEIGHBOUR: 'it returns false'. Refute it at one input. -/
def bufferScriptWrong : ChangeSpec := { name := "bufferScript", fn := fun _ => fun
  | [d1, d2] => { results := [.lit (.bool false)], args := [d1, d2] }
  | _ => none }
def BufferScriptWrongFalsely : Prop := bufferScriptRow.holds Try.pinned (OpenSpec.ofChange bufferScriptWrong)

/- THE SECOND FORM. 'bulk': how many values and letters a reading holds, each counted each time it is reached (what is shared counts as often as it is met; a slice's spare places count too). A statement '..UptoSaid' is the law's where the arguments, and the package variables that the reading takes, are together of bulk at most 1048576: NARROWER than '..Said'. Prove '..Said' where nothing that the law and all that it calls make is longer than what came in: it says more and counts as full. Else prove '..UptoSaid'. A law counts once. -/
mutual
def uptoBulk {H : Type} : DataW H → Nat
  | .lit (.string bytes) => bytes.length + 1
  | .lit _ => 1
  | .nil => 1
  | .ptr d => uptoBulk d + 1
  | .slice elems spare => uptoBulkAll elems + uptoBulkAll spare + 1
  | .agg parts => uptoBulkAll parts + 1
  | .iface _ d => uptoBulk d + 1
  | .map entries => uptoBulkEntries entries + 1
  | .held _ => 1
def uptoBulkAll {H : Type} : List (DataW H) → Nat
  | [] => 0
  | d :: r => uptoBulk d + uptoBulkAll r
def uptoBulkEntries {H : Type} : List (Lit × DataW H) → Nat
  | [] => 0
  | x :: r => uptoBulkEntry x + uptoBulkEntries r
def uptoBulkEntry {H : Type} : Lit × DataW H → Nat
  | (.string bytes, d) => bytes.length + uptoBulk d + 1
  | (_, d) => uptoBulk d + 1
 end
def uptoSmall : (H : Type) → List (DataW H) → Bool := fun _ ds => decide (uptoBulkAll ds ≤ 1048576)
def OpenSpec.upto (s : _root_.Go.ChangeSpec) : _root_.Go.OpenSpec := { _root_.Go.OpenSpec.ofChange s with cond := some uptoSmall }

/-- 'inclinelaw14.BufferOrder', WHERE WHAT IT READS IS OF BULK AT MOST 1048576: true; the input reads as it did. -/
def bufferOrderUptoRow : OpenClaim := { program := "ytalhfjcopkmmlaa", sum := "e3d0831e6236307673c5ff983ba516d103e9accbb78966d129fae491a6ed8ab9", func := "incline/inclinelaw14.BufferOrder", spec := "bufferOrder", unfollowed := true, recurses := true, apart := false, narrowed := true }
def BufferOrderUptoSaid : Prop := bufferOrderUptoRow.holds Try.pinned (OpenSpec.upto bufferOrderSpec)

/-- 'inclinelaw14.BufferLast', WHERE WHAT IT READS IS OF BULK AT MOST 1048576: true; the input reads as it did. -/
def bufferLastUptoRow : OpenClaim := { program := "ytalhfjcopkmmlaa", sum := "e3d0831e6236307673c5ff983ba516d103e9accbb78966d129fae491a6ed8ab9", func := "incline/inclinelaw14.BufferLast", spec := "bufferLast", unfollowed := true, recurses := true, apart := false, narrowed := true }
def BufferLastUptoSaid : Prop := bufferLastUptoRow.holds Try.pinned (OpenSpec.upto bufferLastSpec)

/-- 'inclinelaw14.BufferScript', WHERE WHAT IT READS IS OF BULK AT MOST 1048576: true; the input reads as it did. -/
def bufferScriptUptoRow : OpenClaim := { program := "ytalhfjcopkmmlaa", sum := "e3d0831e6236307673c5ff983ba516d103e9accbb78966d129fae491a6ed8ab9", func := "incline/inclinelaw14.BufferScript", spec := "bufferScript", unfollowed := true, recurses := true, apart := false, narrowed := true }
def BufferScriptUptoSaid : Prop := bufferScriptUptoRow.holds Try.pinned (OpenSpec.upto bufferScriptSpec)

end Rows
end Go.Proofs.Ytalhfjcopkmmlaa
