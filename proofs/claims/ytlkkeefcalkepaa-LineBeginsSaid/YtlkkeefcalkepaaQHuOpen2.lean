/-
  An argument that is a slice of uint64, opened, its capacity with it.
-/
import Derived.Test.YtlkkeefcalkepaaQHuOpen
namespace Go.Proofs.Ytlkkeefcalkepaa
open Go.ChangeShapes Go.WideShapes Go.RowKit Go.Deep
set_option linter.unusedVariables false
set_option linter.unusedSimpArgs false
theorem wf_i64 {n : Int} (h : (Lit.int .i64 n).wf = true) : -9223372036854775808 ≤ n ∧ n ≤ 9223372036854775807 := by
  simpa [Lit.wf, IntKind.min, IntKind.max, IntKind.signed, IntKind.bits] using h
theorem open_u64sc {H : Type} {enc : TypeId × Value → H} {w : World} {base : Nat} {spare : Nat → Bool} {held : Bool} {fuel : Nat} {cs : List Value} {x : DataW H × List MemPlace} (h : DataW.trod enc Try.prog w base spare held fuel 22 cs = some x) :
    ∃ (A : Option Addr) (c : Nat) (L : List Int), cs = [.slice A L.length c] ∧ L.length ≤ c ∧ ArgU w A L ∧ U64s L ∧ ((x.1 = .nil ∧ L = []) ∨ ∃ elems sp, x.1 = .slice elems sp ∧ elems.length = L.length) := by
  obtain ⟨A, c, L, h1, h2, h3, h4⟩ := open_u64s h
  refine ⟨A, c, L, h1, ?_, h2, h3, h4⟩
  rcases open_slice Try.underlying22 h with ⟨h5, _⟩ | ⟨a, len, cap, m, n, D, Pl, h5, hb, hl, _⟩
  · rw [h1] at h5
    simp only [List.cons.injEq, Value.slice.injEq, and_true] at h5
    omega
  · rw [h1] at h5
    simp only [List.cons.injEq, Value.slice.injEq, and_true] at h5
    omega
end Go.Proofs.Ytlkkeefcalkepaa
