/-
  line.Fits: whether a line is near to a key (its closure), and the whole.
-/
import Derived.Test.YtnccgpdniigekaaQG4
import Derived.Test.YtnccgpdniigekaaQG9
import Derived.Deep.LoopGhost
namespace Go.Proofs.Ytnccgpdniigekaa
open Go.RowKit
set_option linter.unusedVariables false
set_option linter.unusedSimpArgs false

def lnV (x : Ln) : Array Value := #[.int .u64 x.1, .int .u64 x.2.1, .int .i64 x.2.2]
structure LnOk (x : Ln) : Prop where
  p : u64ok x.1
  q : u64ok x.2.1
  b : i64ok x.2.2
theorem lineAt_range (x : Ln) (d : Int) (h1 : 0 ≤ x.1) (h2 : 0 ≤ x.2.1) (hd : 0 ≤ d) : ((lineAt x d).2 = 0 ∧ -2305843009213693952 ≤ (lineAt x d).1 ∧ (lineAt x d).1 ≤ 4611686018427387904) ∨ (lineAt x d = (0, 1)) := by
  unfold lineAt
  split
  · exact .inr rfl
  · rename_i h
    split
    · rename_i hn
      have : 0 ≤ x.1 * d / x.2.1 := Int.ediv_nonneg (Int.mul_nonneg h1 hd) h2
      exact .inl ⟨rfl, by simp only []; omega, by simp only []; omega⟩
    · exact .inr rfl
/-- What the closure captured, and the first key. -/
structure NW (wr : World) (gx : Nat) (x : Ln) (A : Option Addr) (n c : Nat) (eps k0 : Int) (b o : Nat) : Prop where
  x : Blk wr gx 106 #[.int .u64 x.1, .int .u64 x.2.1, .int .i64 x.2.2]
  l : Blk wr (gx + 1) 22 #[.slice (some ⟨b, o, none⟩) n c]
  e : Blk wr (gx + 1 + 1) 3 #[.int .i64 eps]
  k : wr.cell? ⟨b, o, none⟩ = some (.int .u64 k0)
theorem NW.all {wr w' : World} {gx : Nat} {x : Ln} {A : Option Addr} {n c : Nat} {eps k0 : Int} {b o : Nat} (h : NW wr gx x A n c eps k0 b o) (k : Below wr.heap.size wr w') :
    Below wr.heap.size wr w' ∧ w'.cell? ⟨gx, 0, none⟩ = some (.int .u64 x.1) ∧ w'.cell? ⟨gx, 1, none⟩ = some (.int .u64 x.2.1) ∧ w'.cell? ⟨gx, 2, none⟩ = some (.int .i64 x.2.2) ∧ w'.cell? ⟨gx + 1, 0, none⟩ = some (.slice (some ⟨b, o, none⟩) n c) ∧ w'.cell? ⟨gx + 1 + 1, 0, none⟩ = some (.int .i64 eps) ∧ w'.cell? ⟨b, o, none⟩ = some (.int .u64 k0) :=
  ⟨k, (h.x.below k).cell 0, (h.x.below k).cell 1, (h.x.below k).cell 2, (h.l.below k).cell 0, (h.e.below k).cell 0, cell_below k h.k⟩
end Go.Proofs.Ytnccgpdniigekaa
/-
  line.Fits, whole.
-/
namespace Go.Proofs.Ytnccgpdniigekaa
open Go.RowKit
set_option linter.unusedVariables false
set_option linter.unusedSimpArgs false

theorem nearTo_zero {x : Ln} {e : Int} {L : List Int} : nearTo x e L 0 = true := by unfold nearTo; simp
theorem nearTo_succ {x : Ln} {e : Int} {L : List Int} {n : Nat} (h : nearTo x e L n = true) (k : nearAt x e L n = true) : nearTo x e L (n + 1) = true := by
  unfold nearTo at *
  rw [decide_eq_true_eq] at *
  intro i hi
  by_cases hin : i = n
  · subst hin; exact k
  · exact h i (by omega)
theorem nearTo_not {x : Ln} {e : Int} {L : List Int} {n i : Nat} (hi : i < n) (k : nearAt x e L i = false) : nearTo x e L n = false := by
  unfold nearTo
  rw [decide_eq_false_iff_not]
  intro h
  have := h i hi
  rw [k] at this
  exact absurd this (by simp)
theorem fitsB_bad {x : Ln} {L : List Int} {eps : Int} (h : eps < 2 ∨ 64 < eps ∨ L = [] ∨ ¬ L.Pairwise (· < ·)) : fitsB x L eps = false := if_pos h
theorem fitsB_good {x : Ln} {L : List Int} {eps : Int} (h1 : 2 ≤ eps) (h2 : eps ≤ 64) (h3 : L ≠ []) (h4 : L.Pairwise (· < ·)) : fitsB x L eps = nearTo x (eps - 1) L L.length :=
  if_neg (by rintro (h | h | h | h); omega; omega; exact h3 h; exact h h4)
theorem ArgU.first {w : World} {A : Option Addr} {L : List Int} (h : ArgU w A L) (hn : 0 < L.length) : ∃ b o, A = some ⟨b, o, none⟩ ∧ b < w.heap.size ∧ w.cell? ⟨b, o, none⟩ = some (.int .u64 (L.getD 0 0)) ∧ ∀ i (hi : i < L.length), w.cell? ⟨b, o + i, none⟩ = some (.int .u64 (L.getD i 0)) := by
  obtain ⟨b, o, hA, hb, hc⟩ := h hn
  have q : ∀ i (hi : i < L.length), w.cell? ⟨b, o + i, none⟩ = some (.int .u64 (L.getD i 0)) := fun i hi => by
    rw [List.getD_eq_getElem?_getD, List.getElem?_eq_getElem hi]; exact hc i hi
  exact ⟨b, o, hA, hb, q 0 hn, q⟩
theorem U64s.getD {L : List Int} (h : U64s L) {i : Nat} (hi : i < L.length) : u64ok (L.getD i 0) := by
  rw [List.getD_eq_getElem?_getD, List.getElem?_eq_getElem hi]; exact h.at hi
theorem up_first {L : List Int} (h : L.Pairwise (· < ·)) {i : Nat} (hi : i < L.length) : L.getD 0 0 ≤ L.getD i 0 := by
  by_cases h0 : i = 0
  · subst h0; exact Int.le_refl _
  · exact Int.le_of_lt (getD_lt h (by omega) hi)
end Go.Proofs.Ytnccgpdniigekaa
