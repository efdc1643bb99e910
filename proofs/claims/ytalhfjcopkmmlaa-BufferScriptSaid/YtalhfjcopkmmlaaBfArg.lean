/-
  A slice of entries that came in.
-/
import Derived.Test.YtalhfjcopkmmlaaBfShown
namespace Go.Proofs.Ytalhfjcopkmmlaa
open Go.RowKit
set_option linter.unusedVariables false
set_option linter.unusedSimpArgs false

/-- The slice reads as these entries; they lie in blocks that were there. -/
def Arg (w : World) (A : Option Addr) (L : List Ent) : Prop := 0 < L.length → ∃ b o, A = some ⟨b, o, none⟩ ∧ b < w.heap.size ∧
  ∀ i (h : i < L.length), w.cell? ⟨b, o + i * 3, none⟩ = some (.int .u64 L[i].1) ∧ w.cell? ⟨b, o + i * 3 + 1, none⟩ = some (.int .u64 L[i].2.1) ∧ w.cell? ⟨b, o + i * 3 + 2, none⟩ = some (.bool L[i].2.2)
theorem Arg.below {w w' : World} {A : Option Addr} {L : List Ent} (h : Arg w A L) (k : Below w.heap.size w w') : Arg w' A L := fun hn => by
  obtain ⟨b, o, hA, hb, hc⟩ := h hn
  refine ⟨b, o, hA, Nat.lt_of_lt_of_le hb k.size, fun i hi => ?_⟩
  obtain ⟨c0, c1, c2⟩ := hc i hi
  exact ⟨(k.cell (p := ⟨b, _, none⟩) hb).trans c0, (k.cell (p := ⟨b, _, none⟩) hb).trans c1, (k.cell (p := ⟨b, _, none⟩) hb).trans c2⟩
theorem Arg.at {w : World} {A : Option Addr} {L : List Ent} (h : Arg w A L) {i : Nat} (hi : i < L.length) : ∃ b o, A = some ⟨b, o, none⟩ ∧ b < w.heap.size ∧
    w.cell? ⟨b, o + i * 3, none⟩ = some (.int .u64 L[i].1) ∧ w.cell? ⟨b, o + i * 3 + 1, none⟩ = some (.int .u64 L[i].2.1) ∧ w.cell? ⟨b, o + i * 3 + 2, none⟩ = some (.bool L[i].2.2) := by
  obtain ⟨b, o, hA, hb, hc⟩ := h (by omega)
  exact ⟨b, o, hA, hb, hc i hi⟩
end Go.Proofs.Ytalhfjcopkmmlaa
