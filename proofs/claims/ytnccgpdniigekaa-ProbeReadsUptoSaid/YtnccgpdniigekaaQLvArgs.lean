/-
  An argument that is a slice of slices of segments, opened.
-/
import Derived.Test.YtnccgpdniigekaaQG19
import Derived.Test.YtnccgpdniigekaaQG29
import Derived.Test.YtnccgpdniigekaaQG24
namespace Go.Proofs.Ytnccgpdniigekaa
open Go.ChangeShapes Go.WideShapes Go.RowKit Go.Deep
set_option linter.unusedVariables false
set_option linter.unusedSimpArgs false

instance : Inhabited Sg := ⟨zS⟩
section
variable {H : Type} {enc : TypeId × Value → H} {w : World} {base : Nat} {spare : Nat → Bool} {held : Bool}
theorem one_of {α : Type} {l : List α} (h : l.length = 5) : ∃ a b c d e, l = [a, b, c, d, e] := by
  match l, h with
  | [a, b, c, d, e], _ => exact ⟨a, b, c, d, e, rfl⟩
/-- Levels as an argument: all that a walk may ask. -/
structure LvArg (w : World) (A : Option Addr) (c : Nat) (ll : List (List Sg)) : Prop where
  arg : ArgSS w A ll
  cap : ll.length ≤ c
  segs : ∀ l ∈ ll, ∀ s ∈ l, SgOk s
  lens7 : ∀ l ∈ ll, l.length ≤ 7000000000000
  count7 : ll.length ≤ 7000000000000
theorem LvArg.lens {w : World} {A : Option Addr} {c : Nat} {ll : List (List Sg)} (h : LvArg w A c ll) : ∀ l ∈ ll, l.length ≤ 17592186044416 := fun l hl => by have := h.lens7 l hl; omega
theorem LvArg.count {w : World} {A : Option Addr} {c : Nat} {ll : List (List Sg)} (h : LvArg w A c ll) : ll.length ≤ 17592186044416 := by have := h.count7; omega
end
end Go.Proofs.Ytnccgpdniigekaa
