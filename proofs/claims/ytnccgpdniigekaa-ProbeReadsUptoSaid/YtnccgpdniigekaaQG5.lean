/-
  line.Fits: whether a line is near to a key (its closure), and the whole.
-/
import Derived.Test.YtnccgpdniigekaaQG4
import Derived.Test.YtnccgpdniigekaaQG9
import Derived.Deep.LoopGhost
namespace Go.Proofs.Ytnccgpdniigekaa
open Go.RowKit
set_option linter.unusedVariables false
set_option linter.unusedSimpArgs false

structure LnOk (x : Ln) : Prop where
  p : u64ok x.1
  q : u64ok x.2.1
  b : i64ok x.2.2
/-- What the closure captured, and the first key. -/
structure NW (wr : World) (gx : Nat) (x : Ln) (A : Option Addr) (n c : Nat) (eps k0 : Int) (b o : Nat) : Prop where
  x : Blk wr gx 106 #[.int .u64 x.1, .int .u64 x.2.1, .int .i64 x.2.2]
  l : Blk wr (gx + 1) 22 #[.slice (some ⟨b, o, none⟩) n c]
  e : Blk wr (gx + 1 + 1) 3 #[.int .i64 eps]
  k : wr.cell? ⟨b, o, none⟩ = some (.int .u64 k0)
theorem NW.all {wr w' : World} {gx : Nat} {x : Ln} {A : Option Addr} {n c : Nat} {eps k0 : Int} {b o : Nat} (h : NW wr gx x A n c eps k0 b o) (k : Below wr.heap.size wr w') :
    Below wr.heap.size wr w' ∧ w'.cell? ⟨gx, 0, none⟩ = some (.int .u64 x.1) ∧ w'.cell? ⟨gx, 1, none⟩ = some (.int .u64 x.2.1) ∧ w'.cell? ⟨gx, 2, none⟩ = some (.int .i64 x.2.2) ∧ w'.cell? ⟨gx + 1, 0, none⟩ = some (.slice (some ⟨b, o, none⟩) n c) ∧ w'.cell? ⟨gx + 1 + 1, 0, none⟩ = some (.int .i64 eps) ∧ w'.cell? ⟨b, o, none⟩ = some (.int .u64 k0) :=
  ⟨k, (h.x.below k).cell 0, (h.x.below k).cell 1, (h.x.below k).cell 2, (h.l.below k).cell 0, (h.e.below k).cell 0, cell_below k h.k⟩
end Go.Proofs.Ytnccgpdniigekaa
/-
  line.Fits, whole.
-/
namespace Go.Proofs.Ytnccgpdniigekaa
open Go.RowKit
set_option linter.unusedVariables false
set_option linter.unusedSimpArgs false

theorem ArgU.first {w : World} {A : Option Addr} {L : List Int} (h : ArgU w A L) (hn : 0 < L.length) : ∃ b o, A = some ⟨b, o, none⟩ ∧ b < w.heap.size ∧ w.cell? ⟨b, o, none⟩ = some (.int .u64 (L.getD 0 0)) ∧ ∀ i (hi : i < L.length), w.cell? ⟨b, o + i, none⟩ = some (.int .u64 (L.getD i 0)) := by
  obtain ⟨b, o, hA, hb, hc⟩ := h hn
  have q : ∀ i (hi : i < L.length), w.cell? ⟨b, o + i, none⟩ = some (.int .u64 (L.getD i 0)) := fun i hi => by
    rw [List.getD_eq_getElem?_getD, List.getElem?_eq_getElem hi]; exact hc i hi
  exact ⟨b, o, hA, hb, q 0 hn, q⟩
theorem U64s.getD {L : List Int} (h : U64s L) {i : Nat} (hi : i < L.length) : u64ok (L.getD i 0) := by
  rw [List.getD_eq_getElem?_getD, List.getElem?_eq_getElem hi]; exact h.at hi
theorem up_first {L : List Int} (h : L.Pairwise (· < ·)) {i : Nat} (hi : i < L.length) : L.getD 0 0 ≤ L.getD i 0 := by
  by_cases h0 : i = 0
  · subst h0; exact Int.le_refl _
  · exact Int.le_of_lt (getD_lt h (by omega) hi)
end Go.Proofs.Ytnccgpdniigekaa
